/- coppiceref4: item. -/
import Derived.Test.YtieoleiokjoccaaFm
import Derived.Test.YtieoleiokjoccaaFn
import Derived.Test.YtieoleiokjoccaaFi
import Derived.Test.YtieoleiokjoccaaVd
namespace Go.Proofs.Ytieoleiokjoccaa
open Go.RowKit

theorem rBytes_own (g : Nat) (B : List UInt8) (at_ : Nat) (er k : Int) (w : World) (h : Rd w g B at_ er) (hb : B.length ≤ 140737488351232) :
    Calls Try.prog 66 #[.pointer (some ⟨g, 0, none⟩), .int .i64 k] w fun e w' => ∃ A m c, e = .returned (.slice A m c) ∧ GB w' w.heap.size A m c (bytesS B at_ er k).1 ∧ Rd w' g B (bytesS B at_ er k).2.1 (bytesS B at_ er k).2.2 ∧ w.grownBy w' (some g) := by
  by_cases hy : er = 0 ∧ 0 ≤ k ∧ k ≤ (B.length : Int) - (at_ : Int)
  · have e1 : bytesS B at_ er k = ((B.drop at_).take k.toNat, at_ + k.toNat, 0) := by unfold bytesS; rw [if_pos hy]
    rw [e1]
    obtain ⟨rfl, h0, hy⟩ := hy
    obtain ⟨m, rfl⟩ : ∃ m : Nat, k = m := ⟨k.toNat, by omega⟩
    refine (rBytes_ok g B at_ m w h (by omega) hb).mono ?_
    rintro e w' ⟨gb, c, rfl, hg, o, d, gx⟩
    exact ⟨_, _, _, rfl, GB.of o hg, d, gx⟩
  · have e1 : bytesS B at_ er k = ([], at_, if er = 0 then 10 else er) := by unfold bytesS; rw [if_neg hy]
    rw [e1]
    refine (rBytes_no g B at_ er k w h hy).mono ?_
    rintro e w' ⟨rfl, d, gx⟩
    exact ⟨_, _, _, rfl, GB.none_ _ _, d, gx⟩
theorem bytes10 (B : List UInt8) (a : Nat) (k : Int) : bytesS B a 10 k = ([], a, 10) := by
  unfold bytesS; rw [if_neg (fun q => absurd q.1 (by decide)), if_neg (by decide)]
theorem num10 (B : List UInt8) (a W : Nat) : numS B a 10 W = (0, a, 10) := by
  unfold numS; rw [if_neg (fun q => absurd q.1 (by decide)), if_neg (by decide)]
theorem tailR_eq (B k : List UInt8) (t a : Nat) (e e' : Int) (h : (if 524289 < t then 10 else e) = e') : tailR B k t a e = if t % 2 = 1 then (⟨k, [], ((t / 2 : Nat) : Int), ((numS B a e' 4).1 : Nat)⟩, (numS B a e' 4).2) else (⟨k, (bytesS B a e' ((t / 2 : Nat) : Int)).1, ((t / 2 : Nat) : Int), 0⟩, (bytesS B a e' ((t / 2 : Nat) : Int)).2) := by
  subst h
  unfold tailR
  by_cases z : 524289 < t
  · rw [if_pos z, if_pos z, num10, bytes10]
    split <;> rfl
  · rw [if_neg z, if_neg z]
theorem rNum4T (g : Nat) (B : List UInt8) (at_ : Nat) (er : Int) (w : World) (h : Rd w g B at_ er) :
    Calls Try.prog 64 #[.pointer (some ⟨g, 0, none⟩), .int .i64 4] w fun e w' => e = .returned (.int .u64 ((numS B at_ er 4).1 : Nat)) ∧ Rd w' g B (numS B at_ er 4).2.1 (numS B at_ er 4).2.2 ∧ w.grownBy w' (some g) := rNum_any g B at_ 4 er w h (by decide)

set_option maxRecDepth 100000 in
set_option maxHeartbeats 8000000 in
theorem refitem_calls (r : Nat) (A : Option Addr) (n c : Nat) (B pre : List UInt8) (at_ : Nat) (er : Int) (w : World) (h : Rd w r B at_ er) (hp : GB w (r + 1) A n c pre) (hpl : pre.length ≤ 255) (hB : B.length ≤ 4092) :
    Calls Try.prog 67 #[.pointer (some ⟨r, 0, none⟩), .slice A n c] w (ItemOut B r (itemR B pre at_ er).1 (itemR B pre at_ er).2.1 (itemR B pre at_ er).2.2 w) := by
  obtain ⟨s, a1, e1, E1⟩ : ∃ x a e, vS B at_ er = (x, a, e) := ⟨_, _, _, rfl⟩
  have G1 := fun W q => rV_any r B at_ er W q
  rw [E1] at G1
  obtain ⟨e1', he1⟩ : ∃ e : Int, (if 255 < s then 10 else e1) = e := ⟨_, rfl⟩
  have G2 := fun k W q => rBytes_own r B a1 e1' k W q (by omega)
  obtain ⟨rest, a2, e2, E2⟩ : ∃ x a e, (if 255 < s then ([], a1, 10) else bytesS B a1 e1 ((s : Nat) : Int)) = (x, a, e) := ⟨_, _, _, rfl⟩
  have hk : ∀ k : Int, (s ≤ 255 → k = (s : Int)) → bytesS B a1 e1' k = (rest, a2, e2) := by
    intro k hk
    rw [← E2, ← he1]
    by_cases z : 255 < s
    · rw [if_pos z, if_pos z, bytes10]
    · rw [if_neg z, if_neg z, hk (by omega)]
  have restl : rest.length ≤ 4092 := by
    have : (bytesS B a1 e1' (s : Int)).1.length ≤ 4092 := by
      unfold bytesS
      split
      · rw [List.length_take, List.length_drop]; omega
      · exact Nat.zero_le _
    rw [hk _ (fun _ => rfl)] at this
    exact this
  obtain ⟨K, hK, hKs⟩ : ∃ K : Int, IntKind.i64.wrap (s : Int) = K ∧ (s ≤ 255 → K = (s : Int)) := ⟨_, rfl, fun q => IntWalk.i64_in _ (by omega)⟩
  have G2K := fun W q => G2 K W q
  rw [hk K hKs] at G2K
  obtain ⟨t, a3, e3, E3⟩ : ∃ x a e, vS B a2 e2 = (x, a, e) := ⟨_, _, _, rfl⟩
  have tl : t < 18446744073709551616 := by have := vS_lt B a2 e2; rw [E3] at this; exact this
  have G3 := fun W q => rV_any r B a2 e2 W q
  rw [E3] at G3
  have hI : itemR B pre at_ er = tailR B (pre ++ rest) t a3 e3 := by
    unfold itemR strR
    rw [E1]; simp only
    rw [E2]; simp only
    rw [E3]
  rw [hI]
  simp only at G1 G2K G3
  obtain ⟨R, hR⟩ : ∃ R, tailR B (pre ++ rest) t a3 e3 = R := ⟨_, rfl⟩
  rw [hR]
  have HR := hideIt hR
  obtain ⟨t1, ht1⟩ : ∃ b, decide ((255 : Int) < (s : Int)) = b := ⟨_, rfl⟩
  have HT1 := hideIt ht1
  have HE1 := hideIt he1
  have HTL := hideIt tl
  have HKW := hideIt hK
  clear hI hR E1 E2 E3 hk G2 hKs he1 tl hK
  have ba := below1 w (.cells #[.slice none 0 0, .slice none 0 0, .int .i64 0, .int .i64 0] 48)
  have h0 := h.below ba
  have hp0 := GB.below hp ba
  have rl := h.lt
  have oi0 : OC (w.alloc (.cells #[.slice none 0 0, .slice none 0 0, .int .i64 0, .int .i64 0] 48)) 48 4 w.heap.size 1 1 [.slice none 0 0, .slice none 0 0, .int .i64 0, .int .i64 0] := OC.mk rfl _ (heap_alloc_new w _) (Nat.le_refl _) (by rw [maxLen_is]; omega) rfl rfl
  have k0 := World.grownBy_alloc w (.cells #[.slice none 0 0, .slice none 0 0, .int .i64 0, .int .i64 0] 48) (some r)
  have nex : some w.heap.size ≠ some r := by simp only [ne_eq, Option.some.injEq]; omega
  clear ba h hp
  go_enter Try.func67, Try.ntmps67
  go_upto_region 2 with (go_at_call 65; refine (G1 _ h0).mono ?_; rintro en w1 ⟨rfl, h1, k1⟩)
  have hp1 : GB w1 (r + 1) A n c pre := GC.grown_lt hp0 k1 (Nat.lt_succ_self r)
  have oi1 := oi0.same (Sm.of_grown k1 oi0.lt nex)
  have kk1 := k0.trans k1
  clear h0 hp0 oi0 k0 k1 G1
  go_cut [14] from 13 to 14 (fun q wx => q = .bool t1 ∧ w1 = wx)
  case first =>
    go_wp2
    go_meet
    exact ⟨rfl, rfl⟩
  case rest =>
  obtain ⟨rfl, rfl⟩ := hcut
  clear ht1
  go_upto_if 14 with (fail)
  go_cut [5] from 15 to 17 (fun q wx => q = .int .u64 (s : Int) ∧ Rd wx r B a1 e1' ∧ GB wx (r + 1) A n c pre ∧ OC wx 48 4 w.heap.size 1 1 [.slice none 0 0, .slice none 0 0, .int .i64 0, .int .i64 0] ∧ w.grownBy wx (some r))
  case first =>
    cases t1
    · have z : ¬ 255 < s := by have := of_decide_eq_false HT1.out; omega
      have e := HE1.out
      rw [if_neg z] at e
      subst e
      clear z
      go_wp2
      go_meet
      exact ⟨rfl, h1, hp1, oi1, kk1⟩
    · have z : 255 < s := by have := of_decide_eq_true HT1.out; omega
      have e := HE1.out
      rw [if_pos z] at e
      subst e
      obtain ⟨gb, n', c', rc0, rc1, rc2, rf1, rf2, -, -, -, -, -⟩ := h1.laid
      have gs := grownBy_set w1 r 2 (.int .i64 10)
      have h2 := h1.setErr 10
      have hp2 : GB _ (r + 1) A n c pre := GC.grown_lt hp1 gs (Nat.lt_succ_self r)
      have oi2 := oi1.same (Sm.of_grown gs oi1.lt nex)
      have kk2 := kk1.trans gs
      clear z h1 hp1 oi1 kk1 gs
      go_wp2
      go_meet
      exact ⟨rfl, h2, hp2, oi2, kk2⟩
  case rest =>
  clear h1 hp1 oi1 kk1
  obtain ⟨rfl, h2, hp2, oi2, kk2⟩ := hcut
  have wK := HKW.out
  go_upto_region 5 with (go_at_call 66; refine (G2K _ h2).mono ?_; rintro en w3 ⟨Ar, L, cr, rfl, o3, h3, k3⟩)
  have hp3 : GB w3 (r + 1) A n c pre := GC.grown_lt hp2 k3 (Nat.lt_succ_self r)
  have oi3 := oi2.same (Sm.of_grown k3 oi2.lt nex)
  have kk3 := kk2.trans k3
  have o3w := GC.lower o3 kk2.size
  clear hp2 oi2 kk2 k3 h2 wK o3 G2K
  go_upto_region 6 with (go_at_call 21; refine (Bytes_calls _ _ _ _ _ (GB.read hp3) (by have := (GB.read hp3).len; omega)).mono ?_; rintro en w4 ⟨gk, ck, rfl, s4, ok, y4⟩)
  have h4 := h3.below y4
  have oi4 := oi3.below y4
  have o4 : GB w4 w.heap.size Ar L cr rest := GC.below o3w y4
  have kk4 := grown_below kk3 y4
  have s4w := Nat.le_trans kk3.size s4
  have lk1 : w.heap.size < gk := Nat.lt_of_lt_of_le oi3.lt s4
  have lk2 : r < gk := by omega
  have lk3 := hideIt (show ∀ a, Ar = some a → a.block ≠ gk from fun a ha => by have := (GB.lt o3w a ha).1; omega)
  have HN := hideIt (GB.read hp3).len
  have HLr := hideIt (GB.read o4).len
  have Lb : L ≤ 4092 := by rw [← HLr.out]; exact restl
  have nb : n ≤ 255 := by rw [← HN.out]; exact hpl
  clear hp3 oi3 kk3 h3 o3w y4 s4
  go_wp2
  go_loopw [7, 8] (fun bb ii wr => ∃ (i g m cc : Nat), i ≤ L ∧ ii = .int .i64 (i : Int) ∧ bb = .slice (some ⟨g, 0, none⟩) m cc ∧ m = n + i ∧ (g = gk ∨ w4.heap.size ≤ g) ∧ OB wr g m cc (pre ++ rest.take i) ∧ w4.grownBy wr (some gk))
    (fun _ ii _ => L - (intOf ii).toNat)
  case atStart => exact ⟨0, gk, n, ck, by omega, rfl, rfl, by omega, Or.inl rfl, by simpa using ok, World.grownBy.refl _ _⟩
  case round =>
    obtain ⟨i, g, m, cc, hi, rfl, rfl, hm, hg, o, gx⟩ := hrel
    by_cases hlt : i < L
    · have rr : RB wr Ar L cr rest := (GB.read o4).same (fun ad ha hL => Sm.of_grown gx (GB.lt o4 ad ha).1 (by simp only [ne_eq, Option.some.injEq]; exact lk3.out ad ha))
      obtain ⟨ad, rfl, cell⟩ := rr.at_ i (by rw [HLr.out]; exact hlt)
      have st := take_snocT (xs := rest) (i := i) (by rw [HLr.out]; exact hlt)
      have ST := hideIt st
      obtain ⟨y, hy⟩ : ∃ y, rest[i]'(by rw [HLr.out]; exact hlt) = y := ⟨_, rfl⟩
      rw [hy] at ST cell
      have ba := below1 wr (.cells #[.int .u8 (y.toNat : Int)] 5)
      have o1 := o.below ba
      have r1 := one_cellT wr y
      have gx1 := grown_below gx ba
      have i3 : (i : Int) < (L : Int) := by omega
      have HM := hideIt hm
      have mb : m ≤ 10000 := by omega
      clear st hy hm rr
      go_wp2_with (with_reducible refine wpB_app2 rfl (.tmp 30) (.tmp 35) rfl _ _ _ _ rfl o1 _ _ _ _ rfl r1 (m + 1) rfl (by omega) ?_; intro g8 c8 w8 q8 o8)
      have gx8 : w4.grownBy w8 (some gk) := by
        rcases q8 with ⟨-, -, k⟩ | ⟨-, k⟩
        · rcases hg with rfl | hg
          · exact gx1.trans k
          · exact grown_over gx1 k hg
        · exact gx1.trans (grown_any k)
      have hg8 : g8 = gk ∨ w4.heap.size ≤ g8 := by
        rcases q8 with ⟨rfl, -, -⟩ | ⟨rfl, -⟩
        · exact hg
        · exact Or.inr gx1.size
      have o9 : OB w8 g8 (m + 1) c8 (pre ++ rest.take (i + 1)) := by
        rw [ST.out, ← List.append_assoc]; exact o8
      go_roundw
      case rel => exact ⟨i + 1, g8, m + 1, c8, by omega, by go_num, rfl, by rw [HM.out]; omega, hg8, o9, gx8⟩
      case measure => simp [intOf]; omega
    · obtain rfl : L = i := by omega
      rw [List.take_of_length_le (by rw [HLr.out]; exact Nat.le_refl _)] at o
      have h6 := h4.above gx lk2
      have oi6 := oi4.same (Sm.of_grown gx oi4.lt (by simp only [ne_eq, Option.some.injEq]; omega))
      have kk6 : w.grownBy wr (some r) := grown_over kk4 gx s4w
      have gw : w.heap.size ≤ g := by
        rcases hg with rfl | hg
        · exact s4w
        · exact Nat.le_trans kk4.size hg
      have okey : GB wr w.heap.size (some ⟨g, 0, none⟩) m cc (pre ++ rest) := GB.of o gw
      have t2 : decide ((L : Int) < (L : Int)) = false := decide_eq_false (by omega)
      generalize pre ++ rest = key at okey HR
      clear hm hg o gx h4 oi4 o4 kk4 s4w lk1 lk2 lk3 ok hi hlt
      obtain ⟨e3', he3⟩ : ∃ e : Int, (if 524289 < t then 10 else e3) = e := ⟨_, rfl⟩
      obtain ⟨t3, ht3⟩ : ∃ b, decide ((524289 : Int) < (t : Int)) = b := ⟨_, rfl⟩
      obtain ⟨q, hq⟩ : ∃ q, t / 2 = q := ⟨_, rfl⟩
      have q1 : (t : Int) / 2 = (q : Int) := by omega
      have qb : q ≤ 9223372036854775807 := by have := HTL.out; omega
      have uq : IntKind.u64.wrap (q : Int) = (q : Int) := by rw [IntKind.wrap_u64]; omega
      have hR2 := HR.out
      rw [tailR_eq B key t a3 e3 e3' he3, hq] at hR2
      have HR2 := hideIt hR2
      have HE3 := hideIt he3
      have HT3 := hideIt ht3
      have HQ := hideIt hq
      clear hR2 HR he3 hq
      go_upto_region 11 with (go_at_call 65; refine (G3 _ h6).mono ?_; rintro en w7 ⟨rfl, h7, k7⟩)
      have oi7 := oi6.same (Sm.of_grown k7 oi6.lt nex)
      have kk7 := kk6.trans k7
      have o7 : GB w7 w.heap.size (some ⟨g, 0, none⟩) m cc key := GC.grown_lt okey k7 rl
      clear h6 oi6 kk6 okey k7 G3
      go_cut [40] from 39 to 40 (fun q wx => q = .bool t3 ∧ w7 = wx)
      case first =>
        go_wp2
        go_meet
        exact ⟨rfl, rfl⟩
      case rest =>
      obtain ⟨rfl, rfl⟩ := hcut
      clear ht3
      go_upto_if 40 with (fail)
      go_cut [9] from 41 to 43 (fun q wx => q = .int .u64 (t : Int) ∧ Rd wx r B a3 e3' ∧ GB wx w.heap.size (some ⟨g, 0, none⟩) m cc key ∧ OC wx 48 4 w.heap.size 1 1 [.slice none 0 0, .slice none 0 0, .int .i64 0, .int .i64 0] ∧ w.grownBy wx (some r))
      case first =>
        cases t3
        · have z : ¬ 524289 < t := by have := of_decide_eq_false HT3.out; omega
          have e := HE3.out
          rw [if_neg z] at e
          subst e
          clear z
          go_wp2
          go_meet
          exact ⟨rfl, h7, o7, oi7, kk7⟩
        · have z : 524289 < t := by have := of_decide_eq_true HT3.out; omega
          have e := HE3.out
          rw [if_pos z] at e
          subst e
          obtain ⟨gb, n', c', rc0, rc1, rc2, rf1, rf2, -, -, -, -, -⟩ := h7.laid
          have gs := grownBy_set w7 r 2 (.int .i64 10)
          have h8 := h7.setErr 10
          have o8 : GB _ w.heap.size (some ⟨g, 0, none⟩) m cc key := GC.grown_lt o7 gs rl
          have oi8 := oi7.same (Sm.of_grown gs oi7.lt nex)
          have kk8 := kk7.trans gs
          clear z h7 o7 oi7 kk7 gs
          go_wp2
          go_meet
          exact ⟨rfl, h8, o8, oi8, kk8⟩
      case rest =>
      clear h7 o7 oi7 kk7
      obtain ⟨rfl, h8, o8, oi8, kk8⟩ := hcut
      obtain ⟨w8, rfl⟩ : ∃ W : World, W = wc := ⟨_, rfl⟩
      clear HE3 HT3
      have bx := below1 w8 (.cells #[.slice (some ⟨g, 0, none⟩) m cc, .slice none 0 0, .int .i64 (q : Int), .int .i64 0] 48)
      have ox9 : OC (w8.alloc (.cells #[.slice (some ⟨g, 0, none⟩) m cc, .slice none 0 0, .int .i64 (q : Int), .int .i64 0] 48)) 48 4 w8.heap.size 1 1 [.slice (some ⟨g, 0, none⟩) m cc, .slice none 0 0, .int .i64 (q : Int), .int .i64 0] := OC.mk rfl _ (heap_alloc_new w8 _) (Nat.le_refl _) (by rw [maxLen_is]; omega) rfl rfl
      have h9 := h8.below bx
      have oi9 := oi8.below bx
      have o9 := GB.below o8 bx
      have kk9 := grown_below kk8 bx
      have l2 : w.heap.size < w8.heap.size := oi8.lt
      have l3 : r < w8.heap.size := h8.lt
      by_cases hr : t % 2 = 1
      · have hR2 := HR2.out
        rw [if_pos hr] at hR2
        have r1 : (t : Int) % 2 = 1 := by omega
        clear hr
        obtain ⟨f, a4, e4, E4⟩ : ∃ x a e, numS B a3 e3' 4 = (x, a, e) := ⟨_, _, _, rfl⟩
        have G4 := fun W q => rNum4T r B a3 e3' W q
        have fl : f < 4294967296 := by have := numS_lt B a3 e3' 4; rw [E4] at this; exact this
        rw [E4] at G4 hR2
        subst hR2
        simp only at G4 ⊢
        have wf : IntKind.i64.wrap (f : Int) = (f : Int) := IntWalk.i64_in _ (by omega)
        clear E4 HR2
        go_upto_region 15 with fail
        generalize hw9 : w8.alloc (.cells #[.slice (some ⟨g, 0, none⟩) m cc, .slice none 0 0, .int .i64 (q : Int), .int .i64 0] 48) = w9 at h9 oi9 o9 kk9 ox9 ⊢
        generalize w8.heap.size = gx at *
        clear hw9 bx q1 r1 h8 o8 oi8 kk8
        have nx : some gx ≠ some r := by simp only [ne_eq, Option.some.injEq]; omega
        go_wp2_with (go_at_call 64; refine (G4 _ h9).mono ?_; rintro en wA ⟨rfl, hA, kA⟩; have oxA := ox9.same (Sm.of_grown kA ox9.lt nx); have oiA := oi9.same (Sm.of_grown kA oi9.lt nex); obtain ⟨z0, z1, z2, z3⟩ := oxA.item4; have frA := oxA.free 3; have f0 := oiA.free 0; have f1 := oiA.free 1; have f2 := oiA.free 2; have f3 := oiA.free 3; obtain ⟨y0, y1, y2, y3⟩ := oiA.item4)
        have oA : GB wA w.heap.size (some ⟨g, 0, none⟩) m cc key := GC.grown_lt o9 kA rl
        have gt := grownBy_set wA gx 3 (.int .i64 (f : Int))
        have h10 := hA.above gt l3
        have oi10 := oiA.same (Sm.of_grown gt oiA.lt (by simp only [ne_eq, Option.some.injEq]; omega))
        have o10 := gb_other oA gt oxA
        have kk10 : w.grownBy _ (some r) := grown_over (kk9.trans kA) gt (Nat.le_of_lt l2)
        have fin := item_fin (p := (some ⟨g, 0, none⟩, m, cc)) (q := (none, 0, 0)) (x := ⟨key, [], (q : Int), (f : Int)⟩) rl oi10 kk10 h10 o10 (GB.none_ _ _) (fun a b _ h => by cases h)
        exact ret_item fin.1 rfl rfl rfl fin.2
      · have hR2 := HR2.out
        rw [if_neg hr] at hR2
        have r1 : (t : Int) % 2 = 0 := by omega
        clear hr
        obtain ⟨v, a4, e4, E4⟩ : ∃ x a e, bytesS B a3 e3' (q : Int) = (x, a, e) := ⟨_, _, _, rfl⟩
        have G4 := fun W q' => rBytes_own r B a3 e3' (q : Int) W q' (by omega)
        rw [E4] at G4 hR2
        subst hR2
        simp only at G4 ⊢
        clear E4 HR2
        go_upto_region 16 with fail
        generalize hw9 : w8.alloc (.cells #[.slice (some ⟨g, 0, none⟩) m cc, .slice none 0 0, .int .i64 (q : Int), .int .i64 0] 48) = w9 at h9 oi9 o9 kk9 ox9 ⊢
        generalize w8.heap.size = gx at *
        clear hw9 bx q1 r1 h8 o8 oi8 kk8
        have nx : some gx ≠ some r := by simp only [ne_eq, Option.some.injEq]; omega
        obtain ⟨zz0, zz1, zz2, zz3⟩ := ox9.item4
        go_wp2_with (go_at_call 66; refine (G4 _ h9).mono ?_; rintro en wA ⟨Av, Lv, cv, rfl, vA, hA, kA⟩; have oxA := ox9.same (Sm.of_grown kA ox9.lt nx); have oiA := oi9.same (Sm.of_grown kA oi9.lt nex); obtain ⟨z0, z1, z2, z3⟩ := oxA.item4; have frA := oxA.free 1; have f0 := oiA.free 0; have f1 := oiA.free 1; have f2 := oiA.free 2; have f3 := oiA.free 3; obtain ⟨y0, y1, y2, y3⟩ := oiA.item4)
        have oA : GB wA w.heap.size (some ⟨g, 0, none⟩) m cc key := GC.grown_lt o9 kA rl
        have hne : Before (some ⟨g, 0, none⟩, m, cc) (Av, Lv, cv) := fun a b ha hb => by
          have h1 := (GB.lt o9 a ha).1
          have h2 := (GB.lt vA b hb).2
          omega
        have gt := grownBy_set wA gx 1 (.slice Av Lv cv)
        have h10 := hA.above gt l3
        have oi10 := oiA.same (Sm.of_grown gt oiA.lt (by simp only [ne_eq, Option.some.injEq]; omega))
        have o10 := gb_other oA gt oxA
        have vAw : GB wA w.heap.size Av Lv cv v := GC.lower vA kk9.size
        have v10 := gb_other vAw gt oxA
        have kk10 : w.grownBy _ (some r) := grown_over (kk9.trans kA) gt (Nat.le_of_lt l2)
        have fin := item_fin (p := (some ⟨g, 0, none⟩, m, cc)) (q := (Av, Lv, cv)) (x := ⟨key, v, (q : Int), 0⟩) rl oi10 kk10 h10 o10 v10 hne
        exact ret_item fin.1 rfl rfl rfl fin.2
end Go.Proofs.Ytieoleiokjoccaa
