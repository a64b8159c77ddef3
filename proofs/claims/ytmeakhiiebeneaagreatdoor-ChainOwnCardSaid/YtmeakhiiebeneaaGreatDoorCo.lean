/- coppicelaw6.ChainOwn: the walk. -/
import Derived.Test.YtmeakhiiebeneaaGreatDoorCw
import Derived.Test.YtmeakhiiebeneaaGreatDoorNj
namespace Go.Proofs.YtmeakhiiebeneaaGreatDoor
open Go.RowKit

theorem encDS_len (x : Int) (d : List UInt8) : (encDS x d).1.length ≤ 4092 := by
  unfold encDS
  split
  · split
    · rename_i h
      unfold isDataB at h
      have := (of_decide_eq_true h).2.1
      show (encD _ _).length ≤ 4092
      rw [encD_length _ _ (by omega)]; exact Nat.le_refl _
    · simp
  · simp
theorem encLS_len (x : Int) (l : List Int) : (encLS x l).1.length ≤ 4092 := by
  unfold encLS
  split
  · split
    · rename_i h
      show (encL _ _).length ≤ 4092
      rw [encL_length _ _ (isList_iff h).1]; exact Nat.le_refl _
    · simp
  · simp
theorem decD_len (b : List UInt8) : (decD b).2.1.length ≤ b.length := by
  unfold decD
  split
  · show (dataOf b).length ≤ _
    unfold dataOf
    rw [List.length_take, List.length_drop]; omega
  · simp
theorem decL_len (b : List UInt8) : (decL b).2.1.length ≤ 1021 := by
  unfold decL
  split
  · rename_i h
    show (numsOf b _).length ≤ _
    rw [numsOf_length]
    unfold okL at h
    simp only [Bool.and_eq_true, decide_eq_true_eq] at h
    exact h.1.2
  · simp
theorem RI.two (w : World) (x y : Int) : RI (w.alloc (.cells #[.int .i64 x, .int .i64 y] 3)) (some ⟨w.heap.size, 0, none⟩) 2 2 [x, y] :=
  OC.read (e := 3) (OC.mk rfl _ (heap_alloc_new w _) (Nat.le_refl _) (by rw [maxLen_is]; omega) rfl rfl)
set_option maxRecDepth 100000 in
set_option maxHeartbeats 16000000 in
theorem ChainOwn_walk (A : Option Addr) (n c : Nat) (v : List UInt8) (A' : Option Addr) (n' c' : Nat) (l : List Int) (w : World) (h : RB w A n c v) (_y : n ≤ 140737488351232) (h' : RI w A' n' c' l) (tb : Tb w.heap.size w) :
    Calls Tryz.prog 5 #[.slice A n c, .slice A' n' c'] w fun e w' => e = .returned (.bool true) ∧ Below w.heap.size w w' := by
  have HTB := hideIt tb
  clear tb
  go_enter Tryz.func5, Tryz.ntmps5
  go_upto_region 2 with (go_at_call 28; refine (first_calls _).mono ?_; rintro en w1 ⟨rfl, b1⟩)
  have r1 := h.below b1
  have i1 := h'.below b1
  have HLEN := hideIt (show v.length = n ∧ l.length = n' from ⟨h.len, h'.len⟩)
  clear h h'
  by_cases hn : 20000 < n
  · have t1 : decide ((20000 : Int) < (n : Int)) = true := decide_eq_true (by omega)
    go_wp2
    go_ret
    exact ⟨rfl, b1⟩
  have t1 : decide ((20000 : Int) < (n : Int)) = false := decide_eq_false (by omega)
  by_cases hn' : 1021 < n'
  · have t2 : decide ((1021 : Int) < (n' : Int)) = true := decide_eq_true (by omega)
    go_wp2
    go_ret
    exact ⟨rfl, b1⟩
  have t2 : decide ((1021 : Int) < (n' : Int)) = false := decide_eq_false (by omega)
  go_upto_region 4 with fail
  clear t1 t2
  have x3 := below1 w1 bookO
  have B3 := Bk.new w1
  have z3 : w1.heap.size + 1 ≤ (w1.alloc bookO).heap.size := by simp
  have b2 := b1.trans (x3.mono b1.size)
  have hgk := b1.size
  have r2 := r1.below x3
  have i2 := i1.below x3
  go_upto_region 5 with (refine wp_book rfl ?_)
  change Code.wp _ _ _ _ (w1.alloc bookO)
  generalize w1.alloc bookO = w2 at *
  generalize w1.heap.size = gk at *
  clear x3 b1 w1 r1 i1
  go_upto_region 6 with (go_at_call 29; refine (roomy_calls _ _ _ _ _ r2 (by omega)).mono ?_; rintro en w3 ⟨gB, cB, rfl, sB, oB, x3⟩)
  have kB := OC.le oB
  replace B3 := B3.below x3
  replace i2 := i2.below x3
  have b3 := b2.trans (x3.mono b2.size)
  have hB0 : w.heap.size ≤ gB := by have := b2.size; omega
  have hkB : gk < gB := by omega
  have hBl := oB.lt
  clear r2 x3 b2 z3 sB w2
  go_upto_region 7 with fail
  go_upto_region 8 with (first
    | (with_reducible refine wpI_app rfl (.tmp 58) (.tmp 59) rfl w3.heap.size _ _ _ _ rfl g5 _ 2 2 [7, 9] rfl R5 (by decide) (by omega) x5.size ?_; intro gI cI w5 qI oI kI)
    | (go_at_call 30; (with_reducible refine (Ints_calls _ _ _ _ _ i2 (by omega)).mono ?_); rintro en w4 ⟨g4, c4, rfl, s4, o4, x4⟩; have x5 := blw_step x4 (below1 w4 (.cells #[.int .i64 7, .int .i64 9] 3)); have g5 : GI _ w3.heap.size (some ⟨g4, 0, none⟩) n' c4 l := GC.below (GC.of o4 s4) (below1 w4 (.cells #[.int .i64 7, .int .i64 9] 3)); have R5 := RI.two w4 7 9))
  have b5' := GC.under g5 x5 kI x5.size
  have kI' := OC.le oI
  have hgk3 := B3.lt
  replace B3 := B3.below b5'
  have oB5 := oB.below b5'
  have b5 := b3.trans (b5'.mono b3.size)
  have hI0 : w.heap.size ≤ gI := by have := b3.size; omega
  have hIl := OC.lt oI
  have hBl5 : gB < w5.heap.size := Nat.lt_of_lt_of_le hBl b5'.size
  have hne : gB ≠ gI := by omega
  have hkI : gI ≠ gk := by have := hgk3; omega
  clear i2 b3 g5 R5 kI x5 x4 s4 o4 b5' oB hBl qI hgk3
  go_upto_region 10 with fail
  obtain ⟨S, hS⟩ : ∃ S, w5.heap.size = S := ⟨_, rfl⟩
  have ST : Cw w w5 S gk gB cB n gI cI n' Ci.no v l := ⟨B3, Kc.no _ _, oB5, oI, HLEN.out.1, HLEN.out.2, by omega, by omega, by omega, hgk, hB0, hI0, by omega, b5, HTB.out.below (Nat.le_refl _) b5, (fun xs h => by cases h), (fun xs h => by cases h), (fun xs h => by cases h)⟩
  have HNE := hideIt hne
  have HGK := hideIt (show gB ≠ gk ∧ gI ≠ gk from ⟨by omega, hkI⟩)
  obtain ⟨M, hM⟩ : ∃ M : Nat, (M : Int) = if (n : Int) ≤ 4085 then (n : Int) else 4085 := by
    by_cases q : n ≤ 4085
    · exact ⟨n, by rw [if_pos (by omega)]⟩
    · exact ⟨4085, by rw [if_neg (by omega)]; rfl⟩
  have hM1 : M ≤ n := by split at hM <;> omega
  have hM2 : M ≤ 4085 := by split at hM <;> omega
  have HM3 := hideIt (show 0 < n → 0 < M by split at hM <;> omega)
  have HMIN := hideIt (show ∀ (ts : Array TypeId) (t : TypeId) (w : World), (Builtin.min_ ts t #[.int .i64 (n : Int), .int .i64 4085]).run Tryz.prog w = .ok (.int .i64 (M : Int)) w from min_at (n : Int) 4085 M hM)
  have hM4 : (M : Int) ≤ (cB : Int) := by omega
  clear B3 oB5 oI HLEN hkB hgk hB0 hI0 hIl hBl5 b5 HTB hne hS hM hkI
  go_loopw [11] (fun ii wr => ∃ (i : Nat) (k : Ci) (xs : List UInt8) (zs : List Int), i ≤ 2 ∧ ii = .int .i64 (i : Int) ∧ Hid (k.mb ≤ 100 * i ∧ k.mi ≤ 2 * i ∧ k.ml ≤ i) ∧ Cw w wr S gk gB cB n gI cI n' k xs zs)
    (fun ii _ => 2 - (intOf ii).toNat)
  case atStart => exact ⟨0, Ci.no, v, l, by omega, rfl, hideIt ⟨Nat.le_refl _, Nat.le_refl _, Nat.le_refl _⟩, ST⟩
  case round =>
    clear ST w5
    obtain ⟨i, k, xs, zs, hi, rfl, HK, st⟩ := hrel
    by_cases hi2 : i < 2
    · have i1 : (i : Int) < 2 := by omega
      have lt0 := hideIt st.lt
      have z0 := st.zs'
      go_upto_region 13 with (go_at_call 31; refine (Pieces_calls _ _ _ _ _ st.rb).mono ?_; rintro en w1 ⟨A1, n1, c1, ps1, rfl, o1, x1⟩)
      have st1 := st.below x1
      have ob1 := hideIt o1.base
      have L1 := hideIt (pieces_len xs)
      have PL1 := hideIt (show n1 ≤ 65 by have := L1.out.2; rw [← o1.len, o1.n] at this; exact this)
      have rb1 := st1.rb
      clear x1 st
      go_upto_region 14 with (first
        | (go_at_call 32; (with_reducible refine (SameByteLists_calls _ _ _ _ _ _ _ _ _ _ _ o1r o2r true (by simp)).mono ?_); rintro en _ ⟨rfl, j, rfl⟩)
        | (go_at_call 33; (with_reducible refine (refPieces_calls _ _ _ _ _ rb1).mono ?_); rintro en w2 ⟨A2, n2, c2, ps2, rfl, o2, x2⟩; have o1r := (o1.below x2).read; have o2r := o2.read))
      have x3 := below_drewN x2 j
      have st3 := st1.below x3
      have o3 := (o1.below x3).lower z0
      clear o1r o2r o1 o2 x2 x3 st1 rb1
      generalize w2.drewN j = w3 at *
      have hk := HK.out
      have pl1 := PL1.out
      have BL := ByteLists_v gk S k.mb k.ml k.cells k.r k.s k.t k.u k.xss k.pss k.qss k.xsss A1 n1 c1 ps1 (pieces xs) w3 st3.bk rfl rfl rfl rfl st3.kc.kb st3.kc.kl st3.kc.dj o3 (fun g q => ⟨fun z => by have h1 := lt0.out.2.2.2.1 g z; have h2 := ob1.out.2 g q; omega, fun z => by have h1 := lt0.out.2.2.2.2 g z; have h2 := ob1.out.2 g q; omega⟩) (fun p hp q hq a b ha hb e => by have h1 := lt0.out.1 p hp a ha; have h2 := ob1.out.1 q hq b hb; omega) (fun p hp a b ha hb e => by have h1 := lt0.out.2.2.1 p hp a ha; have h2 := ob1.out.2 b.block ⟨b, hb, rfl⟩; omega) (by omega) (fun x hx => by have := L1.out.1 x hx; omega) (by omega) (by omega) st3.zs'
      go_upto_region 15 with (go_at_call 34; (with_reducible refine BL.mono ?_); intro en w4 q; obtain ⟨⟨v4, rfl⟩, q⟩ := q)
      obtain ⟨k4, st4, -, e1, e2, e3⟩ := st3.lists (fun x hx => by have := L1.out.1 x hx; omega) (by rw [o3.n]; omega) q
      have HK4 := hideIt (show k4.mb ≤ 100 * i + 65 ∧ k4.mi ≤ 2 * i ∧ k4.ml ≤ i + 1 by omega)
      clear BL q st3 o3 lt0 ob1 L1 PL1 hk pl1 e1 e2 e3 z0 HK
      have hmin := HMIN.out
      go_upto_region 17 with fail
      clear hmin
      obtain ⟨⟨eb, ec⟩, hED⟩ : ∃ p, encDS 0 (xs.take M) = p := ⟨_, rfl⟩
      obtain ⟨⟨lb, lc⟩, hEL⟩ : ∃ p, encLS 0 zs = p := ⟨_, rfl⟩
      have leb := encDS_len 0 (xs.take M)
      have llb := encLS_len 0 zs
      rw [hED] at leb
      rw [hEL] at llb
      simp only at leb llb
      have E1 := fun W q => EncodeData_calls 0 (some ⟨gB, 0, none⟩) M cB (xs.take M) W q
      have E2 := fun W q => refEncodeData_calls 0 (some ⟨gB, 0, none⟩) M cB (xs.take M) W q
      have E3 := fun W q => EncodeList_calls 0 (some ⟨gI, 0, none⟩) n' cI zs W q
      have E4 := fun W q => refEncodeList_calls 0 (some ⟨gI, 0, none⟩) n' cI zs W q
      rw [hED] at E1 E2
      rw [hEL] at E3 E4
      clear hED hEL
      have rp := st4.rb.take M hM1
      have lt4 := hideIt st4.lt
      have z4 := st4.zs'
      go_upto_region 18 with (go_at_call 35; (with_reducible refine (E1 _ rp).mono ?_); rintro en w5 ⟨A5, n5, c5, rfl, g5, x5⟩)
      have st5 := st4.below x5
      have l5 : eb.length = n5 := (GB.read g5).len
      have B5 := hideIt (show ∀ a, A5 = some a → w4.heap.size ≤ a.block from fun a ha => (GB.lt g5 a ha).2)
      replace g5 := GC.lower g5 z4
      replace rp := rp.below x5
      have y5 := x5.size
      clear x5 st4 E1
      go_upto_region 19 with (go_at_call 36; (with_reducible refine (E2 _ rp).mono ?_); rintro en w6 ⟨A6, n6, c6, rfl, g6, x6⟩)
      have st6 := st5.below x6
      have r5 := (GB.below g5 x6).read
      have r6 := GB.read g6
      go_upto_region 20 with (go_at_call 12; (with_reducible refine (SameBytes_calls _ _ _ _ _ _ _ _ _ r5 r6 true (by simp)).mono ?_); rintro en wx ⟨rfl, rfl⟩)
      replace g5 := GB.below g5 x6
      have L5 := hideIt (show ∀ a, A5 = some a → a.block < w6.heap.size from fun a ha => (GB.lt g5 a ha).1)
      have ri := st6.ri
      have y6 := x6.size
      have z6 := st6.zs'
      clear x6 st5 E2 r5 r6 g6 rp
      go_upto_region 21 with (go_at_call 37; (with_reducible refine (E3 _ ri).mono ?_); rintro en w7 ⟨A7, n7, c7, rfl, g7, x7⟩)
      have st7 := st6.below x7
      have l7 : lb.length = n7 := (GB.read g7).len
      have B7 := hideIt (show ∀ a, A7 = some a → w6.heap.size ≤ a.block from fun a ha => (GB.lt g7 a ha).2)
      replace g7 := GC.lower g7 z6
      replace g5 := GB.below g5 x7
      replace ri := ri.below x7
      clear x7 st6 E3
      go_upto_region 22 with (go_at_call 38; (with_reducible refine (E4 _ ri).mono ?_); rintro en w8 ⟨A8, n8, c8, rfl, g8, x8⟩)
      have st8 := st7.below x8
      replace g5 := GB.below g5 x8
      replace g7 := GB.below g7 x8
      have r7 := GB.read g7
      have r8 := GB.read g8
      go_upto_region 23 with (go_at_call 12; (with_reducible refine (SameBytes_calls _ _ _ _ _ _ _ _ _ r7 r8 true (by simp)).mono ?_); rintro en wx ⟨rfl, rfl⟩)
      clear x8 st7 E4 r7 r8 g8 ri
      go_upto_region 25 with (go_at_call 39; refine (num_calls _ _).mono ?_; rintro en wx ⟨rfl, rfl⟩)
      have hk := HK4.out
      have BY := Bytes_v gk S k4.mb k4.cells k4.r k4.s k4.xss A5 n5 c5 eb w8 st8.bk rfl rfl st8.kc.kb g5 (fun p hp a b ha hb e => by have h1 := lt4.out.1 p hp a ha; have h2 := B5.out b hb; omega) (by omega) (by omega) st8.zs'
      go_upto_region 26 with (go_at_call 19; (with_reducible refine BY.mono ?_); intro en w9 q; obtain ⟨⟨v9, rfl⟩, q⟩ := q)
      obtain ⟨k9, st9, ou9, e1, e2, e3, p1, p2, p3⟩ := st8.bytes (by omega) q
      replace g5 := st8.keepGC ou9 g5 (by decide) (by decide) (by decide) (by decide)
      replace g7 := st8.keepGC ou9 g7 (by decide) (by decide) (by decide) (by decide)
      have NE9 := hideIt (show ∀ p ∈ k9.r.ps, ∀ a b, p.1 = some a → A7 = some b → a.block ≠ b.block from fun p hp a b ha hb e => by
        have h2 := B7.out b hb
        rw [p1] at hp
        rcases List.mem_append.1 hp with q | q
        · have h1 := lt4.out.1 p q a ha; omega
        · rw [List.mem_singleton] at q; subst q; have h1 := L5.out a ha; omega)
      have HK9 := hideIt (show k9.mb ≤ 100 * i + 66 ∧ k9.mi ≤ 2 * i ∧ k9.ml ≤ i + 1 by omega)
      clear BY q st8 ou9 e1 e2 e3 p1 p2 p3 lt4 B5 L5 B7 HK4 hk z4 y5 y6 z6
      have hk := HK9.out
      have BY := Bytes_v gk S k9.mb k9.cells k9.r k9.s k9.xss A7 n7 c7 lb w9 st9.bk rfl rfl st9.kc.kb g7 NE9.out (by omega) (by omega) st9.zs'
      go_upto_region 27 with (go_at_call 19; (with_reducible refine BY.mono ?_); intro en w10 q; obtain ⟨⟨v10, rfl⟩, q⟩ := q)
      obtain ⟨k10, st10, ou10, e1, e2, e3, p1, p2, p3⟩ := st9.bytes (by omega) q
      replace g5 := st9.keepGC ou10 g5 (by decide) (by decide) (by decide) (by decide)
      replace g7 := st9.keepGC ou10 g7 (by decide) (by decide) (by decide) (by decide)
      have HK10 := hideIt (show k10.mb ≤ 100 * i + 67 ∧ k10.mi ≤ 2 * i ∧ k10.ml ≤ i + 1 by omega)
      have lt10 := hideIt st10.lt
      have r5 := GB.read g5
      clear BY q st9 ou10 e1 e2 e3 p1 p2 p3 NE9 HK9 hk
      go_upto_region 28 with (go_at_call 29; (with_reducible refine (roomy_calls _ _ _ _ _ r5 (by omega)).mono ?_); rintro en w11 ⟨gR, cR, rfl, sR, oR, x11⟩)
      have st11 := st10.below x11
      have y11 := x11.size
      have kR := OC.le oR
      replace g5 := g5.below x11
      replace g7 := g7.below x11
      have r7 := GB.read g7
      clear x11 st10 r5 sR
      go_upto_region 29 with (go_at_call 29; (with_reducible refine (roomy_calls _ _ _ _ _ r7 (by omega)).mono ?_); rintro en w12 ⟨gL, cL, rfl, sL, oL, x12⟩)
      have st12 := st11.below x12
      have y12 := x12.size
      have kL := OC.le oL
      replace g5 := g5.below x12
      replace g7 := g7.below x12
      replace oR := oR.below x12
      have rR : RB w12 (some ⟨gR, 0, none⟩) n5 cR eb := by have := oR.read.take n5 (by omega); rwa [room_take l5] at this
      clear x12 st11 r7 sL
      go_upto_region 30 with (go_at_call 40; (with_reducible refine (DecodeData_calls _ _ _ _ _ rR).mono ?_); rintro en w13 ⟨A13, n13, c13, rfl, g13, x13⟩)
      have st13 := st12.below x13
      have y13 := x13.size
      have l13 : (decD eb).2.1.length = n13 := (GB.read g13).len
      have m13 := decD_len eb
      have B13 := hideIt (show ∀ a, A13 = some a → w12.heap.size ≤ a.block from fun a ha => (GB.lt g13 a ha).2)
      replace g13 := GC.lower g13 st12.zs'
      replace g5 := g5.below x13
      replace g7 := g7.below x13
      replace oR := oR.below x13
      replace oL := oL.below x13
      have rL : RB w13 (some ⟨gL, 0, none⟩) n7 cL lb := by have := oL.read.take n7 (by omega); rwa [room_take l7] at this
      clear x13 st12 rR
      go_upto_region 31 with (go_at_call 41; (with_reducible refine (DecodeList_calls _ _ _ _ _ rL).mono ?_); rintro en w14 ⟨A14, n14, c14, rfl, g14, x14⟩)
      have st14 := st13.below x14
      have y14 := x14.size
      have l14 : (decL lb).2.1.length = n14 := by have := g14.1; rw [i64s_length] at this; omega
      have m14 := decL_len lb
      have B14 := hideIt (show ∀ a, A14 = some a → w13.heap.size ≤ a.block ∧ a.block < w14.heap.size from fun a ha => ⟨(g14.lt a ha).2, (g14.lt a ha).1⟩)
      replace g14 := GC.lower g14 st13.zs'
      replace g5 := g5.below x14
      replace g7 := g7.below x14
      replace oR := oR.below x14
      replace oL := oL.below x14
      replace g13 := GB.below g13 x14
      replace rL := rL.below x14
      clear x14 st13
      go_upto_region 32 with (go_at_call 41; (with_reducible refine (DecodeList_calls _ _ _ _ _ rL).mono ?_); rintro en w15 ⟨A15, n15, c15, rfl, g15, x15⟩)
      have st15 := st14.below x15
      have l15 : (decL lb).2.1.length = n15 := by have := g15.1; rw [i64s_length] at this; omega
      have B15 := hideIt (show ∀ a, A15 = some a → w14.heap.size ≤ a.block from fun a ha => (g15.lt a ha).2)
      replace g15 := GC.lower g15 st14.zs'
      replace g5 := g5.below x15
      replace g7 := g7.below x15
      replace oR := oR.below x15
      replace oL := oL.below x15
      replace g13 := GB.below g13 x15
      replace g14 := GC.below g14 x15
      clear x15 st14 rL
      have hk := HK10.out
      have BY := Bytes_v gk S k10.mb k10.cells k10.r k10.s k10.xss A13 n13 c13 (decD eb).2.1 w15 st15.bk rfl rfl st15.kc.kb g13 (fun p hp a b ha hb e => by have h1 := lt10.out.1 p hp a ha; have h2 := B13.out b hb; omega) (by omega) (by omega) st15.zs'
      go_upto_region 33 with (go_at_call 19; (with_reducible refine BY.mono ?_); intro en w16 q; obtain ⟨⟨v16, rfl⟩, q⟩ := q)
      obtain ⟨k16, st16, ou16, e1, e2, e3, p1, p2, p3⟩ := st15.bytes (by omega) q
      replace g5 := st15.keepGC ou16 g5 (by decide) (by decide) (by decide) (by decide)
      replace g7 := st15.keepGC ou16 g7 (by decide) (by decide) (by decide) (by decide)
      replace g14 := st15.keepGC ou16 g14 (by decide) (by decide) (by decide) (by decide)
      replace g15 := st15.keepGC ou16 g15 (by decide) (by decide) (by decide) (by decide)
      replace oR : OB w16 gR (n5 + 40) cR (eb ++ room40 40) := st15.keepOC ou16 oR (by decide) (by decide) (by decide) (by decide)
      replace oL : OB w16 gL (n7 + 40) cL (lb ++ room40 40) := st15.keepOC ou16 oL (by decide) (by decide) (by decide) (by decide)
      have HK16 := hideIt (show k16.mb ≤ 100 * i + 68 ∧ k16.mi ≤ 2 * i ∧ k16.ml ≤ i + 1 by omega)
      have NE16 := hideIt (show ∀ p ∈ k16.a.ps, ∀ a b, p.1 = some a → A14 = some b → a.block ≠ b.block from fun p hp a b ha hb e => by
        rw [p2] at hp
        have h1 := lt10.out.2.1 p hp a ha; have h2 := B14.out b hb; omega)
      have NE17 := hideIt (show ∀ p ∈ k16.a.ps ++ [(A14, n14, c14)], ∀ a b, p.1 = some a → A15 = some b → a.block ≠ b.block from fun p hp a b ha hb e => by
        have h2 := B15.out b hb
        rw [p2] at hp
        rcases List.mem_append.1 hp with q | q
        · have h1 := lt10.out.2.1 p q a ha; omega
        · rw [List.mem_singleton] at q; subst q; have h1 := B14.out a ha; omega)
      clear BY q st15 ou16 e1 e2 e3 p1 p2 p3 lt10 B13 B14 B15 HK10 hk g13 m13 l13 y11 y12 y13 y14
      have hk := HK16.out
      have IY := Ints_v gk S k16.mi k16.cells k16.a k16.b k16.iss A14 n14 c14 (decL lb).2.1 w16 st16.bk rfl rfl st16.kc.ki g14 NE16.out (by omega) (by omega) st16.zs'
      go_upto_region 34 with (go_at_call 42; (with_reducible refine IY.mono ?_); intro en w17 q; obtain ⟨⟨v17, rfl⟩, q⟩ := q)
      obtain ⟨k17, st17, ou17, e1, e2, e3, p1, p2, p3⟩ := st16.ints (by omega) q
      replace g5 := st16.keepGC ou17 g5 (by decide) (by decide) (by decide) (by decide)
      replace g7 := st16.keepGC ou17 g7 (by decide) (by decide) (by decide) (by decide)
      replace g15 := st16.keepGC ou17 g15 (by decide) (by decide) (by decide) (by decide)
      replace oR : OB w17 gR (n5 + 40) cR (eb ++ room40 40) := st16.keepOC ou17 oR (by decide) (by decide) (by decide) (by decide)
      replace oL : OB w17 gL (n7 + 40) cL (lb ++ room40 40) := st16.keepOC ou17 oL (by decide) (by decide) (by decide) (by decide)
      have HK17 := hideIt (show k17.mb ≤ 100 * i + 68 ∧ k17.mi ≤ 2 * i + 1 ∧ k17.ml ≤ i + 1 by omega)
      rw [← p2] at NE17
      clear IY q st16 ou17 e1 e2 e3 p1 p2 p3 HK16 hk g14 NE16 l14
      have hk := HK17.out
      have IY := Ints_v gk S k17.mi k17.cells k17.a k17.b k17.iss A15 n15 c15 (decL lb).2.1 w17 st17.bk rfl rfl st17.kc.ki g15 NE17.out (by omega) (by omega) st17.zs'
      go_upto_region 35 with (go_at_call 42; (with_reducible refine IY.mono ?_); intro en w18 q; obtain ⟨⟨v18, rfl⟩, q⟩ := q)
      obtain ⟨k18, st18, ou18, e1, e2, e3, p1, p2, p3⟩ := st17.ints (by omega) q
      replace g5 := st17.keepGC ou18 g5 (by decide) (by decide) (by decide) (by decide)
      replace g7 := st17.keepGC ou18 g7 (by decide) (by decide) (by decide) (by decide)
      replace oR : OB w18 gR (n5 + 40) cR (eb ++ room40 40) := st17.keepOC ou18 oR (by decide) (by decide) (by decide) (by decide)
      replace oL : OB w18 gL (n7 + 40) cL (lb ++ room40 40) := st17.keepOC ou18 oL (by decide) (by decide) (by decide) (by decide)
      have HK18 := hideIt (show k18.mb ≤ 100 * i + 68 ∧ k18.mi ≤ 2 * i + 2 ∧ k18.ml ≤ i + 1 by omega)
      clear IY q st17 ou18 e1 e2 e3 p1 p2 p3 HK17 hk g15 NE17 l15 m14
      have r5 := GB.read g5
      go_upto_region 36 with (first
        | (go_at_call 12; (with_reducible refine (SameBytes_calls _ _ _ _ _ _ _ _ _ qL qL2 true (by simp)).mono ?_); rintro en wx ⟨rfl, rfl⟩)
        | (go_at_call 29; (with_reducible refine (roomy_calls _ _ _ _ _ r7 (by omega)).mono ?_); rintro en w20 ⟨gN, cN, rfl, sN, oN, x20⟩; have b20 := blw_step b19 x20; have qL := (oL.below b20).read; have qL2 := oN.read)
        | (go_at_call 12; (with_reducible refine (SameBytes_calls _ _ _ _ _ _ _ _ _ qR qR2 true (by simp)).mono ?_); rintro en wx ⟨rfl, rfl⟩)
        | (go_at_call 29; (with_reducible refine (roomy_calls _ _ _ _ _ r5 (by omega)).mono ?_); rintro en w19 ⟨gM, cM, rfl, sM, oM, b19⟩; have qR := (oR.below b19).read; have qR2 := oM.read; have r7 := GB.read (GB.below g7 b19)))
      have st20 := st18.below b20
      have rb20 := st20.rb
      clear r5 r7 qL qL2 qR qR2 oN oM oL oR g5 g7 b19 b20 x20 st18 sN sM kR kL l5 l7 leb llb
      go_upto_region 38 with fail
      have j7 : (n' : Int) < (n' : Int) + 2 := by omega
      have j9 : (n' : Int) + 1 < (n' : Int) + 2 := by omega
      go_upto_region 39 with (first
        | (go_at_call 12; (with_reducible refine (SameBytes_calls _ _ _ _ _ _ _ _ _ qB qB2 true (by simp)).mono ?_); rintro en wx ⟨rfl, rfl⟩)
        | (go_at_call 29; (with_reducible refine (roomy_calls _ _ _ _ _ rb20 (by omega)).mono ?_); rintro en w21 ⟨gK, cK, rfl, sK, oK, x21⟩; have st21 := st20.below x21; have qB := st21.ob.read; have qB2 := oK.read; have c7 := st21.c7; have c9 := st21.c9))
      clear qB qB2 oK sK x21 st20 rb20 c7 c9 j7 j9
      go_upto_region 41 with fail
      have HKN := hideIt (show k18.mb ≤ 100 * (i + 1) ∧ k18.mi ≤ 2 * (i + 1) ∧ k18.ml ≤ i + 1 by have := HK18.out; omega)
      clear HK18
      by_cases hn0 : 0 < n
      · have h0' : decide ((0 : Int) < (n : Int)) = true := decide_eq_true (by omega)
        have h0n : decide (0 < n) = true := decide_eq_true hn0
        obtain ⟨q, HQ⟩ : ∃ q, Hid (M = q + 1) := ⟨M - 1, hideIt (by have := HM3.out hn0; omega)⟩
        have hq1 : (M : Int) - 1 = (q : Int) := by have := HQ.out; omega
        have hq2 : (q : Int) < (n : Int) := by have := HQ.out; omega
        obtain ⟨y, hy⟩ : ∃ y, (xs ++ room40 40).getD q 0 = y := ⟨_, rfl⟩
        have cy1 := byte_cell st21.ob (q := q) (by have := HQ.out; omega) (hideIt hy)
        have fy1 := OB.free st21.ob q
        have oT := byte_turn st21.ob q y 1
        have eT : (xs ++ room40 40).set q (y ^^^ 1) = xs.set q (y ^^^ 1) ++ room40 40 := by rw [List.set_append_left _ _ (by rw [st21.lx]; have := HQ.out; omega)]
        rw [eT] at oT
        have SB : Hid (Cw w (w21.setCell ⟨gB, q, none⟩ (.int .u8 (bits .xor .u8 (y.toNat : Int) 1))) S gk gB cB n gI cI n' k18 (xs.set q (y ^^^ 1)) zs) := hideIt (st21.put (q := q) st21.gb HGK.out.1 st21.gB0 oT (OC.same st21.oi (Sm.setCell _ _ _ HNE.out.symm)) (by rw [List.length_set]; exact st21.lx) st21.lz)
        clear hy oT eT st21
        go_upto_region 43 with fail
        have st22 := SB.out
        clear SB cy1 fy1 h0' h0n hq1 hq2 HQ
        generalize w21.setCell ⟨gB, q, none⟩ (.int .u8 (bits .xor .u8 (y.toNat : Int) 1)) = w22 at *
        by_cases hz0 : 0 < n'
        · have d0 : decide ((0 : Int) < (n' : Int)) = true := decide_eq_true (by omega)
          have d0n : decide (0 < n') = true := decide_eq_true hz0
          obtain ⟨p, HP⟩ : ∃ p, Hid (n' = p + 1) := ⟨n' - 1, hideIt (by omega)⟩
          have hp1 : (n' : Int) - 1 = (p : Int) := by have := HP.out; omega
          have hp2 : (p : Int) < (n' : Int) := by have := HP.out; omega
          have hp3 : p < zs.length := by rw [st22.lz]; have := HP.out; omega
          obtain ⟨z, hz⟩ : ∃ z, zs[p]? = some z := ⟨_, List.getElem?_eq_getElem hp3⟩
          obtain ⟨z2, hz2⟩ : ∃ z2, IntKind.i64.wrap (z + 1) = z2 := ⟨_, rfl⟩
          have cz := OC.cell st22.oi p (.int .i64 z) (by rw [i64s_append, List.getElem?_append_left (by rw [i64s_length]; exact hp3)]; unfold i64s; rw [List.getElem?_map, hz]; rfl)
          have fz := OC.free st22.oi p
          have eZ : (i64s (zs ++ [7, 9])).set p (.int .i64 z2) = i64s (zs.set p z2 ++ [7, 9]) := by
            rw [← List.set_append_left _ _ hp3]; unfold i64s; rw [List.map_set]
          have oz := OC.set st22.oi p (.int .i64 z2)
          rw [eZ] at oz
          have SZ := hideIt (st22.put (q := p) (v := .int .i64 z2) st22.gi HGK.out.2 st22.gI0 (st22.ob.same (Sm.setCell _ _ _ HNE.out)) oz st22.lx (by rw [List.length_set]; exact st22.lz))
          clear eZ oz hz hp3 st22
          go_wp2
          go_roundw
          case rel => exact ⟨i + 1, k18, (xs.set q (y ^^^ 1)), zs.set p z2, by omega, by go_num, HKN, SZ.out⟩
          case measure => simp [intOf]; omega
        · obtain rfl : n' = 0 := by omega
          go_wp2
          go_roundw
          case rel => exact ⟨i + 1, k18, (xs.set q (y ^^^ 1)), zs, by omega, by go_num, HKN, st22⟩
          case measure => simp [intOf]; omega
      · obtain rfl : n = 0 := by omega
        go_upto_region 43 with fail
        by_cases hz0 : 0 < n'
        · have d0 : decide ((0 : Int) < (n' : Int)) = true := decide_eq_true (by omega)
          have d0n : decide (0 < n') = true := decide_eq_true hz0
          obtain ⟨p, HP⟩ : ∃ p, Hid (n' = p + 1) := ⟨n' - 1, hideIt (by omega)⟩
          have hp1 : (n' : Int) - 1 = (p : Int) := by have := HP.out; omega
          have hp2 : (p : Int) < (n' : Int) := by have := HP.out; omega
          have hp3 : p < zs.length := by rw [st21.lz]; have := HP.out; omega
          obtain ⟨z, hz⟩ : ∃ z, zs[p]? = some z := ⟨_, List.getElem?_eq_getElem hp3⟩
          obtain ⟨z2, hz2⟩ : ∃ z2, IntKind.i64.wrap (z + 1) = z2 := ⟨_, rfl⟩
          have cz := OC.cell st21.oi p (.int .i64 z) (by rw [i64s_append, List.getElem?_append_left (by rw [i64s_length]; exact hp3)]; unfold i64s; rw [List.getElem?_map, hz]; rfl)
          have fz := OC.free st21.oi p
          have eZ : (i64s (zs ++ [7, 9])).set p (.int .i64 z2) = i64s (zs.set p z2 ++ [7, 9]) := by
            rw [← List.set_append_left _ _ hp3]; unfold i64s; rw [List.map_set]
          have oz := OC.set st21.oi p (.int .i64 z2)
          rw [eZ] at oz
          have SZ := hideIt (st21.put (q := p) (v := .int .i64 z2) st21.gi HGK.out.2 st21.gI0 (st21.ob.same (Sm.setCell _ _ _ HNE.out)) oz st21.lx (by rw [List.length_set]; exact st21.lz))
          clear eZ oz hz hp3 st21
          go_wp2
          go_roundw
          case rel => exact ⟨i + 1, k18, xs, zs.set p z2, by omega, by go_num, HKN, SZ.out⟩
          case measure => simp [intOf]; omega
        · obtain rfl : n' = 0 := by omega
          go_wp2
          go_roundw
          case rel => exact ⟨i + 1, k18, xs, zs, by omega, by go_num, HKN, st21⟩
          case measure => simp [intOf]; omega
    · obtain rfl : i = 2 := by omega
      have hk := HK.out
      have FI := Finish_C (B := w.heap.size) (gk := gk) S k.mb k.mi k.ml k.r k.s k.a k.b k.t k.u k.xss k.iss k.pss k.qss k.xsss w wr st.bk st.kc st.tb st.bb st.bb.size st.s0 st.g0 st.zs' (by omega) (by omega) (by omega) st.l1 st.l2 st.l3
      clear st HMIN
      go_wp2_with (go_at_call 20; (with_reducible refine FI.mono ?_); rintro en w2 ⟨rfl, x2⟩)
      go_ret
      exact ⟨rfl, x2⟩
end Go.Proofs.YtmeakhiiebeneaaGreatDoor
