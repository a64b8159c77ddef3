/- coppiceref5.Decode, coppicelaw5.decodes. -/
import Derived.Test.YthboanaogfmefaaQh
import Derived.Test.YthboanaogfmefaaPo
namespace Go.Proofs.Ythboanaogfmefaa
open Go.RowKit

theorem readR_is {b : List UInt8} {v : Int} {l : List (List UInt8)} {ks : List (Int × Int)} (h : IsBody b v l ks) : readR b = some (v, l, ks) := by
  obtain ⟨hw, rfl⟩ := h
  exact readR_body (ok_of hw)
theorem dec_none {b : List UInt8} (h : readR b = none) : okDec b = false := by
  rcases hd : okDec b with _ | _
  · rfl
  · rw [readR_is (dec_body hd)] at h; cases h
theorem enc_body {b : List UInt8} {v : Int} {l : List (List UInt8)} {ks : List (Int × Int)} (h : encB v l ks = (b, 0)) : IsBody b v l ks := by
  unfold encB at h
  by_cases hw : wrongS v l ks = 0
  · rw [if_pos hw] at h
    cases h
    exact ⟨hw, rfl⟩
  · rw [if_neg hw] at h
    exact absurd (Prod.mk.inj h).2 hw
theorem dec_read {b : List UInt8} {v : Int} {l : List (List UInt8)} {ks : List (Int × Int)} (hr : readR b = some (v, l, ks)) (h : encB v l ks ≠ (b, 0)) : okDec b = false := by
  rcases hd : okDec b with _ | _
  · rfl
  · have hb := dec_body hd
    rw [readR_is hb] at hr
    cases hr
    refine absurd ?_ h
    unfold encB
    rw [if_pos hb.1, hb.2]
theorem DecodeOut.mk {w w' : World} {b : List UInt8} {v : Int} {l : List (List UInt8)} {ks : List (Int × Int)} (h : IsBody b v l ks) {A1 A2 : Option Addr} {n1 c1 n2 c2 : Nat} {ps : List (Option Addr × Nat × Nat)} (om : OM w' w.heap.size A1 n1 c1 ps l) (gk : GK w' w.heap.size A2 n2 c2 ks) (bw : Below w.heap.size w w') :
    DecodeOut w b (.returned (.tuple #[.int .i64 v, .slice A1 n1 c1, .slice A2 n2 c2, .int .i64 0])) w' := by
  obtain ⟨h0, h1, h2, h3⟩ := body_dec h
  unfold DecodeOut
  rw [h0, h1, h2, h3]
  exact ⟨_, _, _, ps, _, _, _, rfl, om, gk, bw⟩

set_option maxRecDepth 100000 in
set_option maxHeartbeats 4000000 in
theorem refDecode_calls (A : Option Addr) (n c : Nat) (b : List UInt8) (w : World) (h : RB w A n c b) :
    Calls Try.prog 47 #[.slice A n c] w (DecodeOut w b) := by
  have hl := h.len
  by_cases hn : n = 4092
  · subst hn
    have RD := refRead_calls A c b w h
    obtain ⟨T, hT⟩ : ∃ T, readR b = T := ⟨_, rfl⟩
    rw [hT] at RD
    rcases T with _ | ⟨v, l, ks⟩
    · have HD := hideIt (dec_none hT)
      clear hT
      go_enter Try.func47, Try.ntmps47
      go_wp2_with (go_at_call 62; refine RD.mono ?_; rintro en w1 ⟨rfl, b1⟩)
      (try simp only [Exit.inBlock, Exit.then]); refine bodyPost_ret (results_four rfl _ _ _) rfl ?_
      exact DecodeOut.no HD.out rfl b1
    · have hfew := readR_few hT hl
      have HNO : Hid (encB v l ks ≠ (b, 0) → okDec b = false) := hideIt (dec_read hT)
      have HYES : Hid (encB v l ks = (b, 0) → IsBody b v l ks) := hideIt enc_body
      have ENC := fun (a1 : Option Addr) (m1 d1 : Nat) (vs : List Value) (a2 : Option Addr) (m2 d2 : Nat) (W : World) (q1 : RM W a1 m1 d1 vs l) (q2 : RK W a2 m2 d2 ks) => refEncode_calls v a1 m1 d1 vs l a2 m2 d2 ks W q1 (by have := q1.len; rw [← this]; exact hfew) q2
      unfold EncOut at ENC
      obtain ⟨bd, cd, hen⟩ : ∃ bd cd, encB v l ks = (bd, cd) := ⟨_, _, rfl⟩
      rw [hen] at ENC HNO HYES
      clear hT hen hfew hl
      go_enter Try.func47, Try.ntmps47
      go_upto_region 4 with (go_at_call 62; refine RD.mono ?_; rintro en w1 ⟨A1, n1, c1, ps, A2, n2, c2, rfl, om, gk, b1⟩)
      have h1 := h.below b1
      clear RD h
      go_upto_region 7 with (go_at_call 23; refine (ENC _ _ _ _ _ _ _ _ om.read (GK.read gk)).mono ?_; rintro en w2 ⟨A3, n3, rfl, eb, b2⟩)
      have om2 := om.below b2
      have gk2 : GK w2 w.heap.size A2 n2 c2 ks := GC.below gk b2
      have h2 := h1.below b2
      have b3 := blw_step b1 b2
      clear ENC om gk h1 b1 b2
      by_cases hcd : cd = 0
      · subst hcd
        obtain ⟨t, ht⟩ : ∃ t, decide (bd = b) = t := ⟨_, rfl⟩
        have EQ := SameBytes_calls _ _ _ _ _ _ _ _ w2 (GB.read eb) h2 t ht.symm
        cases t
        · have HD := hideIt (HNO.out (by intro q; exact of_decide_eq_false ht (Prod.mk.inj q).1))
          clear ht HNO HYES eb h2 om2 gk2
          go_wp2_with (go_at_call 24; refine EQ.mono ?_; rintro en wx ⟨rfl, rfl⟩)
          (try simp only [Exit.inBlock, Exit.then]); refine bodyPost_ret (results_four rfl _ _ _) rfl ?_
          exact DecodeOut.no HD.out rfl b3
        · have HY := hideIt (HYES.out (by rw [of_decide_eq_true ht]))
          clear ht HNO HYES eb h2
          go_wp2_with (go_at_call 24; refine EQ.mono ?_; rintro en wx ⟨rfl, rfl⟩)
          (try simp only [Exit.inBlock, Exit.then]); refine bodyPost_ret (results_four rfl _ _ _) rfl ?_
          exact DecodeOut.mk HY.out om2 gk2 b3
      · have HD := hideIt (HNO.out (by intro q; exact hcd (Prod.mk.inj q).2))
        have z0 : (cd != 0) = true := by rw [bne_iff_ne]; exact hcd
        clear hcd HNO HYES eb h2 om2 gk2
        go_wp2
        (try simp only [Exit.inBlock, Exit.then]); refine bodyPost_ret (results_four rfl _ _ _) rfl ?_
        exact DecodeOut.no HD.out rfl b3
  · have HD := hideIt (dec_len (b := b) (by omega))
    have z0 : ((n : Int) != 4092) = true := by rw [bne_iff_ne]; omega
    clear hn
    go_enter Try.func47, Try.ntmps47
    go_wp2
    (try simp only [Exit.inBlock, Exit.then]); refine bodyPost_ret (results_four rfl _ _ _) rfl ?_
    exact DecodeOut.no HD.out rfl (Below.refl _ _)

/-- Both decodes in one form. -/
theorem dec_two (b : List UInt8) : ∃ (v : Int) (l : List (List UInt8)) (ks : List (Int × Int)) (z : Int),
    (∀ (A : Option Addr) (n c : Nat) (w : World), RB w A n c b → Calls Try.prog 29 #[.slice A n c] w fun e w' => ∃ (A1 : Option Addr) (n1 c1 : Nat) (ps : List (Option Addr × Nat × Nat)) (A2 : Option Addr) (n2 c2 : Nat), e = .returned (.tuple #[.int .i64 v, .slice A1 n1 c1, .slice A2 n2 c2, .int .i64 z]) ∧ OM w' w.heap.size A1 n1 c1 ps l ∧ GK w' w.heap.size A2 n2 c2 ks ∧ Below w.heap.size w w') ∧
    (∀ (A : Option Addr) (n c : Nat) (w : World), RB w A n c b → Calls Try.prog 47 #[.slice A n c] w fun e w' => ∃ (A1 : Option Addr) (n1 c1 : Nat) (ps : List (Option Addr × Nat × Nat)) (A2 : Option Addr) (n2 c2 : Nat), e = .returned (.tuple #[.int .i64 v, .slice A1 n1 c1, .slice A2 n2 c2, .int .i64 z]) ∧ OM w' w.heap.size A1 n1 c1 ps l ∧ GK w' w.heap.size A2 n2 c2 ks ∧ Below w.heap.size w w') :=
  ⟨_, _, _, _, fun A n c w h => Decode_calls A n c b w h, fun A n c w h => refDecode_calls A n c b w h⟩

set_option maxRecDepth 100000 in
set_option maxHeartbeats 4000000 in
theorem decodes_calls (A : Option Addr) (n c : Nat) (b : List UInt8) (w : World) (h : RB w A n c b) (hn : n ≤ 100000) :
    Calls Try.prog 26 #[.slice A n c] w fun e w' => e = .returned (.bool true) ∧ Below w.heap.size w w' := by
  obtain ⟨v, l, ks, z, D1, D2⟩ := dec_two b
  have HL := hideIt h.len
  go_enter Try.func26, Try.ntmps26
  go_upto_region 2 with (first
    | (with_reducible refine wpB_app rfl (.tmp 16) (.tmp 17) rfl _ _ _ _ rfl o2 _ _ _ [201, 202] rfl lit (n + 2) rfl (by omega) ?_; intro g3 c3 w3 q3 p3 o3 k3)
    | (go_at_call 33; refine (Bytes_calls _ _ _ _ _ h (by omega)).mono ?_; rintro en w1 ⟨g1, c1, rfl, s1, o1, x1⟩; have ba := below1 w1 (.cells #[.int .u8 201, .int .u8 202] 5); have o2 := o1.below ba; have lit : RB (w1.alloc (.cells #[.int .u8 201, .int .u8 202] 5)) (some ⟨w1.heap.size, 0, none⟩) 2 2 [201, 202] := lit_read w1 [201, 202] 2 (0, 0) 5 rfl (by decide); have b2 := blw_step x1 ba))
  have b3 : Below w.heap.size w w3 := blw_own b2 k3 b2.size s1
  have h3 := h.below b3
  have hc3 := OC.le o3
  have i1 : (n : Int) ≤ (c3 : Int) := by omega
  clear o1 o2 lit ba x1 b2 k3 q3 p3 s1
  have T3 : RB w3 (some ⟨g3, 0, none⟩) n c3 b := by
    have := o3.read.take n (by omega)
    rw [List.take_left' HL.out] at this
    exact this
  go_upto_region 4 with (go_at_call 29; refine (D1 _ _ _ _ T3).mono ?_; rintro en w4 ⟨A4, n4, c4, ps4, A5, n5, c5, rfl, om, gk, x4⟩)
  have o4 := o3.below x4
  have h4 := h3.below x4
  have b4 := blw_step b3 x4
  clear D1 T3 o3 h3 b3 x4
  go_upto_region 5 with (go_at_call 47; refine (D2 _ _ _ _ h4).mono ?_; rintro en w5 ⟨A6, n6, c6, ps6, A7, n7, c7, rfl, om6, gk7, x5⟩)
  have o5 := o4.below x5
  have h5 := h4.below x5
  have b5 := blw_step b4 x5
  have m4 := (om.below x5).read
  have k5 : RK w5 A5 n5 c5 ks := GK.read (GC.below gk x5)
  have m6 := om6.read
  have k7 := GK.read gk7
  clear D2 o4 h4 b4 x5 om gk om6 gk7
  have S1 := SameByteLists_calls _ _ _ _ _ _ _ _ _ _ _ m4 m6 true (by simp)
  have S2 := fun j W (e : W = w5.drewN j) => SameKids_calls _ _ _ _ _ _ _ _ W (RK.at_world (k5.drew_ j) e) (RK.at_world (k7.drew_ j) e) true (by simp)
  clear m4 m6 k5 k7
  go_upto_region 6 with (first
    | (go_at_call 25; refine (num_calls _ _).mono ?_; rintro en wx ⟨rfl, rfl⟩)
    | (go_at_call 31; refine (S2 j6 _ H6.out).mono ?_; rintro en w7 ⟨rfl, j7, h7⟩; have y7 := below_at (below_drewN y6 j7) h7; clear h7)
    | (go_at_call 30; refine S1.mono ?_; rintro en w6 ⟨rfl, j6, h6⟩; have y6 := below_at (below_drewN (Below.refl w5.heap.size w5) j6) h6; have H6 := hideIt h6; clear h6))
  have o7 := o5.below y7
  have h7 := h5.below y7
  have b7 := blw_step b5 y7
  clear S1 S2 o5 h5 b5 y6 y7 H6
  have T7 : RB w7 (some ⟨g3, 0, none⟩) n c3 b := by
    have := o7.read.take n (by omega)
    rw [List.take_left' HL.out] at this
    exact this
  have cc1 := OC.cell o7 n (.int .u8 201) (by rw [u8s_append, List.getElem?_append_right (by rw [u8s_length, HL.out]; exact Nat.le_refl _), u8s_length, HL.out, Nat.sub_self]; rfl)
  have cc2 := OC.cell o7 (n + 1) (.int .u8 202) (by rw [u8s_append, List.getElem?_append_right (by rw [u8s_length, HL.out]; omega), u8s_length, HL.out, Nat.add_sub_cancel_left]; rfl)
  have i2 : (n : Int) < (n : Int) + 2 := by omega
  have i3 : (n : Int) + 1 < (n : Int) + 2 := by omega
  have i4 : ((n : Int) + 1).toNat = n + 1 := by omega
  have SB := SameBytes_calls _ _ _ _ _ _ _ _ _ T7 h7 true (by simp)
  clear o7 T7 h7
  go_wp2_with (go_at_call 24; refine SB.mono ?_; rintro en wx ⟨rfl, rfl⟩)
  go_ret
  exact ⟨rfl, b7⟩
end Go.Proofs.Ythboanaogfmefaa
