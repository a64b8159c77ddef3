/- The walks of ChainBack and ChainWhole. -/
import Derived.Test.YthahedpkefojdaaNn
namespace Go.Proofs.Ythahedpkefojdaa
open Go.RowKit

theorem encDS_ok {x : Int} {d : List UInt8} (h : (encDS x d).2 = 0) : isNextB x = true ∧ isDataB x d.length = true ∧ encDS x d = (encD x.toNat d, 0) := by
  unfold encDS at h ⊢
  by_cases h1 : isNextB x = true
  · rw [if_pos h1] at h ⊢
    by_cases h2 : isDataB x d.length = true
    · rw [if_pos h2]; exact ⟨h1, h2, rfl⟩
    · rw [if_neg h2] at h; cases h
  · rw [if_neg h1] at h; cases h
theorem encLS_ok {x : Int} {l : List Int} (h : (encLS x l).2 = 0) : isNextB x = true ∧ isListB x l = true ∧ encLS x l = (encL x.toNat l, 0) := by
  unfold encLS at h ⊢
  by_cases h1 : isNextB x = true
  · rw [if_pos h1] at h ⊢
    by_cases h2 : isListB x l = true
    · rw [if_pos h2]; exact ⟨h1, h2, rfl⟩
    · rw [if_neg h2] at h; cases h
  · rw [if_neg h1] at h; cases h

/-- the first way: encoded data are read back, and are no list. -/
def Back1 (x : Int) (d : List UInt8) (r : List UInt8 × Int) : Prop := r.2 = 0 → ∃ X : Nat, x = (X : Int) ∧ decD r.1 = (X, d, 0) ∧ decL r.1 = (0, [], 61)
theorem back1 (x : Int) (d : List UInt8) : Back1 x d (encDS x d) := by
  intro h
  obtain ⟨h1, h2, e⟩ := encDS_ok h
  rw [e]
  exact ⟨x.toNat, (isNext_toNat h1).1.symm, decD_encD x d h1 h2, decL_encD x d⟩
def Back2 (x : Int) (l : List Int) (r : List UInt8 × Int) : Prop := r.2 = 0 → ∃ X : Nat, x = (X : Int) ∧ decL r.1 = (X, l, 0) ∧ decD r.1 = (0, [], 60)
theorem back2 (x : Int) (l : List Int) : Back2 x l (encLS x l) := by
  intro h
  obtain ⟨h1, h2, e⟩ := encLS_ok h
  rw [e]
  exact ⟨x.toNat, (isNext_toNat h1).1.symm, decL_encL x l h1 h2, decD_encL x l⟩

set_option maxRecDepth 100000 in
set_option maxHeartbeats 8000000 in
theorem ChainBack_walk (x : Int) (A1 : Option Addr) (n1 c1 : Nat) (d : List UInt8) (A2 : Option Addr) (n2 c2 : Nat) (l : List Int) (A3 : Option Addr) (n3 c3 : Nat) (b : List UInt8) (w : World)
    (_hx : -9223372036854775808 ≤ x ∧ x ≤ 9223372036854775807) (h1 : RB w A1 n1 c1 d) (_y1 : n1 ≤ 140737488351232) (h2 : RI w A2 n2 c2 l) (h3 : RB w A3 n3 c3 b) (_y3 : n3 ≤ 140737488351232) :
    Calls Try.prog 8 #[.int .i64 x, .slice A1 n1 c1, .slice A2 n2 c2, .slice A3 n3 c3] w fun e w' => e = .returned (.bool true) ∧ Below w.heap.size w w' := by
  have C1 := fun W q => EncodeData_calls x A1 n1 c1 d W q
  have C2 := fun W q => EncodeList_calls x A2 n2 c2 l W q
  have K1 := hideIt (back1 x d)
  have K2 := hideIt (back2 x l)
  generalize encDS x d = r1 at C1 K1
  generalize encLS x l = r2 at C2 K2
  obtain ⟨y1, e1⟩ := r1
  obtain ⟨y2, e2⟩ := r2
  have D3 := fun W q => DecodeData_calls A3 n3 c3 b W q
  have L3 := fun W q => DecodeList_calls A3 n3 c3 b W q
  have K3 := hideIt (decD_back b)
  have K4 := hideIt (decL_back b)
  generalize decD b = r3 at D3 K3
  generalize decL b = r4 at L3 K4
  obtain ⟨x3, d3, e3⟩ := r3
  obtain ⟨x4, l4, e4⟩ := r4
  clear _hx
  go_enter Try.func8, Try.ntmps8
  go_upto_region 2 with (go_at_call 9; refine (first_calls _).mono ?_; rintro en w1 ⟨rfl, b1⟩)
  go_upto_region 3 with (go_at_call 10; refine (C1 _ (h1.below b1)).mono ?_; rintro en w2 ⟨B2, m2, k2, rfl, q2, x2⟩)
  have b2 := blw_step b1 x2
  clear b1 x2 C1
  go_upto_if 48 with (go_at_call 13; refine (num_calls _ _).mono ?_; rintro en wx ⟨rfl, rfl⟩)
  go_cut [9] from 49 to 82 (fun v wx => v = .bool true ∧ Below w.heap.size w wx)
  case first =>
    by_cases he : e1 = 0
    · subst he
      obtain ⟨X, rfl, hD, hLn⟩ := K1.out rfl
      simp only at hD hLn
      have DD := fun A n c W q => DecodeData_calls A n c y1 W q
      rw [hD] at DD
      have DL := fun A n c W q => DecodeList_calls A n c y1 W q
      rw [hLn] at DL
      clear hD hLn
      go_upto_region 5 with (go_at_call 21; refine (DD _ _ _ _ q2.read).mono ?_; rintro en w3 ⟨B3, m3, k3, rfl, q3, x3'⟩)
      have b3 := blw_step b2 x3'
      have q23 := q2.below x3'
      go_upto_region 6 with (go_at_call 12; refine (SameBytes_calls _ _ _ _ _ _ _ _ _ q3.read (h1.below b3) true (by simp)).mono ?_; rintro en wx ⟨rfl, rfl⟩)
      go_upto_region 7 with (go_at_call 23; refine (DL _ _ _ _ q23.read).mono ?_; rintro en w4 ⟨B4, m4, k4, rfl, q4, x4'⟩)
      have b4 := blw_step b3 x4'
      go_wp2_with (go_at_call 13; refine (num_calls _ _).mono ?_; rintro en wx ⟨rfl, rfl⟩)
      go_meet
      exact ⟨by simp, b4⟩
    · have he' : (e1 == 0) = false := beq_eq_false_iff_ne.2 he
      clear he
      go_wp2_with fail
      go_meet
      exact ⟨rfl, b2⟩
  case rest =>
  obtain ⟨rfl, b3⟩ := hcut
  clear b2 q2
  go_upto_region 9 with (go_at_call 14; refine (C2 _ (h2.below b3)).mono ?_; rintro en w2 ⟨B2, m2, k2, rfl, q2, x2⟩)
  have b2 := blw_step b3 x2
  clear b3 x2 C2
  go_upto_if 91 with (go_at_call 13; refine (num_calls _ _).mono ?_; rintro en wx ⟨rfl, rfl⟩)
  go_cut [9] from 92 to 125 (fun v wx => v = .bool true ∧ Below w.heap.size w wx)
  case first =>
    by_cases he : e2 = 0
    · subst he
      obtain ⟨X, rfl, hD, hLn⟩ := K2.out rfl
      simp only at hD hLn
      have DD := fun A n c W q => DecodeData_calls A n c y2 W q
      rw [hLn] at DD
      have DL := fun A n c W q => DecodeList_calls A n c y2 W q
      rw [hD] at DL
      clear hD hLn
      go_upto_region 11 with (go_at_call 23; refine (DL _ _ _ _ q2.read).mono ?_; rintro en w3 ⟨B3, m3, k3, rfl, q3, x3'⟩)
      have b3 := blw_step b2 x3'
      have q23 := q2.below x3'
      have S := SameInts_calls _ _ _ _ _ _ _ _ _ (GC.read q3) (h2.below b3) true (by simp)
      go_upto_region 12 with (go_at_call 25; refine S.mono ?_; rintro en wx ⟨rfl, jj, rfl⟩)
      have q23 := q23.below (below_drewN (Below.refl w3.heap.size w3) jj)
      have b3 := below_drewN b3 jj
      clear S q3 x3'
      generalize w3.drewN jj = w4 at *
      go_upto_region 13 with (go_at_call 21; refine (DD _ _ _ _ q23.read).mono ?_; rintro en w5 ⟨B5, m5, k5, rfl, q5, x5'⟩)
      have b5 := blw_step b3 x5'
      go_wp2_with (go_at_call 13; refine (num_calls _ _).mono ?_; rintro en wx ⟨rfl, rfl⟩)
      go_meet
      exact ⟨by simp, b5⟩
    · have he' : (e2 == 0) = false := beq_eq_false_iff_ne.2 he
      clear he
      go_wp2_with fail
      go_meet
      exact ⟨rfl, b2⟩
  case rest =>
  obtain ⟨rfl, b3⟩ := hcut
  clear b2 q2
  go_upto_region 15 with (go_at_call 21; refine (D3 _ (h3.below b3)).mono ?_; rintro en w2 ⟨B2, m2, k2, rfl, q2, x2⟩)
  have b2 := blw_step b3 x2
  clear b3 x2 D3
  go_upto_if 134 with (go_at_call 13; refine (num_calls _ _).mono ?_; rintro en wx ⟨rfl, rfl⟩)
  go_cut [9] from 135 to 152 (fun v wx => v = .bool true ∧ Below w.heap.size w wx)
  case first =>
    by_cases he : e3 = 0
    · subst he
      have hE := K3.out rfl
      have DD := fun A n c W q => EncodeData_calls (x3 : Int) A n c d3 W q
      rw [hE] at DD
      clear hE
      go_upto_region 17 with (go_at_call 10; refine (DD _ _ _ _ q2.read).mono ?_; rintro en w3 ⟨B3, m3, k3, rfl, q3, x3'⟩)
      have b3 := blw_step b2 x3'
      go_wp2_with (first
        | (go_at_call 12; refine (SameBytes_calls _ _ _ _ _ _ _ _ _ q3.read (h3.below b3) true (by simp)).mono ?_; rintro en wx ⟨rfl, rfl⟩)
        | (go_at_call 13; refine (num_calls _ _).mono ?_; rintro en wx ⟨rfl, rfl⟩))
      go_meet
      exact ⟨by simp, b3⟩
    · have he' : (e3 == 0) = false := beq_eq_false_iff_ne.2 he
      clear he
      go_wp2_with fail
      go_meet
      exact ⟨rfl, b2⟩
  case rest =>
  obtain ⟨rfl, b3⟩ := hcut
  clear b2 q2
  go_upto_region 20 with (go_at_call 23; refine (L3 _ (h3.below b3)).mono ?_; rintro en w2 ⟨B2, m2, k2, rfl, q2, x2⟩)
  have b2 := blw_step b3 x2
  clear b3 x2 L3
  by_cases he : e4 = 0
  · subst he
    have hE := K4.out rfl
    have DD := fun A n c W q => EncodeList_calls (x4 : Int) A n c l4 W q
    rw [hE] at DD
    clear hE
    go_upto_region 22 with (first
      | (go_at_call 13; refine (num_calls _ _).mono ?_; rintro en wx ⟨rfl, rfl⟩)
      | (go_at_call 14; refine (DD _ _ _ _ (GC.read q2)).mono ?_; rintro en w3 ⟨B3, m3, k3, rfl, q3, x3'⟩))
    have b3 := blw_step b2 x3'
    go_wp2_with (first
      | (go_at_call 12; refine (SameBytes_calls _ _ _ _ _ _ _ _ _ q3.read (h3.below b3) true (by simp)).mono ?_; rintro en wx ⟨rfl, rfl⟩)
      | (go_at_call 13; refine (num_calls _ _).mono ?_; rintro en wx ⟨rfl, rfl⟩))
    go_ret
    exact ⟨ret_bool1 (by simp), b3⟩
  · have he' : (e4 == 0) = false := beq_eq_false_iff_ne.2 he
    clear he
    go_wp2_with (go_at_call 13; refine (num_calls _ _).mono ?_; rintro en wx ⟨rfl, rfl⟩)
    go_ret
    exact ⟨rfl, b2⟩

theorem piece_len (v : List UInt8) (n i : Nat) (hn : v.length = n) (h : i < pagesS (n : Int)) : ((v.drop (4085 * i)).take 4085).length = if i + 1 = pagesS (n : Int) then n - 4085 * i else 4085 := by
  have hp := pages_last n i h
  rw [List.length_take, List.length_drop, hn]
  split <;> omega
theorem whole_step (v : List UInt8) (i : Nat) : v.take (4085 * i) ++ (v.drop (4085 * i)).take 4085 = v.take (4085 * (i + 1)) := by
  rw [show 4085 * (i + 1) = 4085 * i + 4085 by omega, List.take_add]
set_option maxRecDepth 100000 in
set_option maxHeartbeats 8000000 in
theorem ChainWhole_walk (A : Option Addr) (n c : Nat) (v : List UInt8) (x : Int) (w : World) (h : RB w A n c v) (_y : n ≤ 140737488351232) (_hx : -9223372036854775808 ≤ x ∧ x ≤ 9223372036854775807) :
    Calls Try.prog 6 #[.slice A n c, .int .i64 x] w fun e w' => e = .returned (.bool true) ∧ Below w.heap.size w w' := by
  have HL := hideIt h.len
  by_cases hbig : 524288 < n
  · have i1 : (524288 : Int) < (n : Int) := by omega
    go_enter Try.func6, Try.ntmps6
    go_wp2_with (go_at_call 9; refine (first_calls _).mono ?_; rintro en w1 ⟨rfl, b1⟩)
    go_ret
    exact ⟨rfl, b1⟩
  have i1 : ¬ (524288 : Int) < (n : Int) := by omega
  have n5 : n ≤ 524288 := by omega
  obtain ⟨t, ht⟩ : ∃ t, decide (x < 2 ∨ 524286 < x) = t := ⟨_, rfl⟩
  have HT := hideIt ht
  clear hbig _hx ht
  go_enter Try.func6, Try.ntmps6
  go_upto_region 4 with (go_at_call 9; refine (first_calls _).mono ?_; rintro en w1 ⟨rfl, b1⟩)
  go_cut [25] from 20 to 25 (fun q wx => q = .bool t ∧ w1 = wx)
  case first =>
    by_cases h2 : x < 2
    · obtain rfl : t = true := by rw [← HT.out]; exact decide_eq_true (Or.inl h2)
      go_wp2_with fail
      go_meet
      exact ⟨rfl, rfl⟩
    · have h2' : decide (x < 2) = false := decide_eq_false h2
      by_cases h3 : 524286 < x
      · obtain rfl : t = true := by rw [← HT.out]; exact decide_eq_true (Or.inr h3)
        go_wp2_with fail
        go_meet
        exact ⟨rfl, rfl⟩
      · have h3' : decide (524286 < x) = false := decide_eq_false h3
        obtain rfl : t = false := by rw [← HT.out]; exact decide_eq_false (by omega)
        clear h2 h3
        go_wp2_with fail
        go_meet
        exact ⟨rfl, rfl⟩
  case rest =>
  obtain ⟨rfl, rfl⟩ := hcut
  go_upto_if 25 with (fail)
  go_cut [1] from 26 to 26 (fun q wx => ∃ X : Nat, q = .int .i64 (X : Int) ∧ 2 ≤ X ∧ X ≤ 524286 ∧ w1 = wx)
  case first =>
    cases t
    · have hx := of_decide_eq_false HT.out
      obtain ⟨X, rfl⟩ : ∃ X : Nat, x = (X : Int) := ⟨x.toNat, by omega⟩
      have x1 : 2 ≤ X := by omega
      have x2 : X ≤ 524286 := by omega
      clear hx
      go_wp2_with fail
      go_meet
      exact ⟨X, rfl, x1, x2, rfl⟩
    · go_wp2_with fail
      go_meet
      exact ⟨2, rfl, by omega, by omega, rfl⟩
  case rest =>
  obtain ⟨X, rfl, x1, x2, rfl⟩ := hcut
  have h1 := h.below b1
  obtain ⟨K, hK⟩ : ∃ K, pagesS (n : Int) = K := ⟨_, rfl⟩
  have HK := hideIt hK
  have PC := fun W => Pages_calls (n : Int) W
  rw [hK] at PC
  have K65 : K ≤ 65 := by rw [← hK]; exact pages_le _
  have lp : (pieces v).length = K := by unfold pieces; rw [HL.out, List.length_map, List.length_range, hK]
  clear hK
  go_upto_region 7 with (go_at_call 18; refine (Pieces_calls _ _ _ _ _ h1).mono ?_; rintro en w2 ⟨A2, m2, c2, ps2, rfl, om, k2⟩)
  have b2 := blw_step b1 k2
  obtain rfl : K = m2 := by rw [← lp, ← om.len, om.n]
  clear b1 k2 h1 lp
  rcases Nat.eq_zero_or_pos K with hK0 | hK0
  · have hz := pages_none n (by rw [HK.out]; exact hK0)
    subst hK0
    by_cases hs : n ≤ 512
    · have j1 : (n : Int) ≤ 512 := by omega
      clear hz hs
      go_wp2_with (go_at_call 16; refine (PC _).mono ?_; rintro en wx ⟨rfl, rfl⟩)
      go_ret
      exact ⟨rfl, b2⟩
    · have j1 : decide ((n : Int) ≤ 512) = false := decide_eq_false (by omega)
      have j2 : (262144 : Int) < (n : Int) := by omega
      clear hz hs
      go_wp2_with (go_at_call 16; refine (PC _).mono ?_; rintro en wx ⟨rfl, rfl⟩)
      go_ret
      exact ⟨ret_bool1 (by simp [*]), b2⟩
  · have hz : ((K : Int) == 0) = false := beq_eq_false_iff_ne.2 (by omega)
    have j0 : (1 : Int) ≤ (K : Int) := by omega
    go_upto_region 11 with (go_at_call 16; refine (PC _).mono ?_; rintro en wx ⟨rfl, rfl⟩)
    go_wp2
    go_loopw [7, 8] (fun aa ii wr => ∃ (i m7 c7 : Nat) (A7 : Option Addr), i ≤ K ∧ ii = .int .i64 (i : Int) ∧ aa = .slice A7 m7 c7 ∧ GB wr w2.heap.size A7 m7 c7 (v.take (4085 * i)) ∧ Below w2.heap.size w2 wr)
      (fun _ ii _ => K - (intOf ii).toNat)
    case atStart => exact ⟨0, 0, 0, none, by omega, rfl, rfl, GB.none_ _ _, Below.refl _ _⟩
    case round =>
      obtain ⟨i, m7, c7, A7, hi, rfl, rfl, G, bw⟩ := hrel
      have m7le : m7 ≤ 524288 := by rw [← G.read.len, List.length_take, HL.out]; omega
      by_cases hlt : i < K
      · have hpg := pages_last n i (by rw [HK.out]; exact hlt)
        have hpl := piece_len v n i HL.out (by rw [HK.out]; exact hlt)
        rw [HK.out] at hpg hpl
        obtain ⟨ad, B1, q1, d1, D, rfl, hD, cD, rD⟩ := (om.below bw).read.row i hlt
        have hDe : D = (v.drop (4085 * i)).take 4085 := by
          have := pieces_get v i (by rw [HL.out, HK.out]; exact hlt)
          rw [this] at hD
          injection hD with hD
          exact hD.symm
        rw [← hDe] at hpl
        have ws := whole_step v i
        rw [← hDe] at ws
        have WS := hideIt ws
        have q1l := rD.len
        have j1 : (i : Int) < (K : Int) := by omega
        clear hD hDe ws
        by_cases hlast : i + 1 = K
        · rw [if_pos hlast] at hpl
          have h2 : isDataB ((0 : Nat) : Int) D.length = true := decide_eq_true (by omega)
          have h1 : isNextB ((0 : Nat) : Int) = true := by decide
          have hE : encDS ((0 : Nat) : Int) D = (encD 0 D, 0) := by unfold encDS; rw [if_pos h1, if_pos h2]; rfl
          have hDD := decD_encD ((0 : Nat) : Int) D h1 h2
          rw [show ((0 : Nat) : Int).toNat = 0 from Int.toNat_natCast _] at hDD
          have el := encD_length 0 D (by omega)
          have C1 := fun W q => EncodeData_calls ((0 : Nat) : Int) B1 q1 d1 D W q
          rw [hE] at C1
          have C2 := fun A n c W q => DecodeData_calls A n c (encD 0 D) W q
          rw [hDD] at C2
          generalize encD 0 D = E at *
          have EL := hideIt el
          have DL := hideIt (show D.length = q1 from q1l)
          have j2 : ((i : Int) == (K : Int) - 1) = true := beq_iff_eq.2 (by omega)
          have q0 : ((q1 : Int) == 0) = false := beq_eq_false_iff_ne.2 (by omega)
          have q1b : q1 ≤ 4085 := by omega
          clear h1 h2 hE hDD el hpl hpg hlast q1l
          go_upto_region 19 with (go_at_call 10; refine (C1 _ rD).mono ?_; rintro en w3 ⟨A3, m3, c3, rfl, q3, k3⟩)
          have b3 := blw_step bw k3
          have G3 := G.below k3
          obtain ⟨rfl, g3, rfl, -, o3⟩ := q3.full EL.out (by omega)
          clear G k3 q3 C1 bw cD rD
          go_upto_region 20 with (go_at_call 21; refine (C2 _ _ _ _ o3.read).mono ?_; rintro en w4 ⟨A4, m4, c4, rfl, q4, k4⟩)
          have b4 := blw_step b3 k4
          have G4 := G3.below k4
          obtain rfl : q1 = m4 := by rw [← DL.out]; exact q4.read.len
          clear G3 k4 C2 b3 o3
          have q1p : 0 < q1 := by have := q0; simp at this; omega
          go_wp2_with (first
            | (with_reducible refine wpBG_app rfl (.tmp 94) (.tmp 95) rfl w2.heap.size _ _ _ _ rfl G4 _ _ _ _ rfl q4.read q1p (by omega) b4.size ?_; intro g5 c5 w5 q5 o5 k5)
            | (go_at_call 13; refine (num_calls _ _).mono ?_; rintro en wx ⟨rfl, rfl⟩))
          rw [WS.out] at o5
          have b5 := GC.under G4 b4 k5 b4.size
          go_roundw
          case rel => exact ⟨i + 1, m7 + q1, c5, _, by omega, by go_num, rfl, GB.of o5 q5, b5⟩
          case measure => simp [intOf]; omega
        · rw [if_neg hlast] at hpl
          have h2 : isDataB (X : Int) D.length = true := decide_eq_true (by omega)
          have h1 : isNextB (X : Int) = true := isNext_yes (by omega)
          have hE : encDS (X : Int) D = (encD X D, 0) := by unfold encDS; rw [if_pos h1, if_pos h2]; rfl
          have hDD := decD_encD (X : Int) D h1 h2
          rw [show ((X : Nat) : Int).toNat = X from Int.toNat_natCast _] at hDD
          have el := encD_length X D (by omega)
          have C1 := fun W q => EncodeData_calls (X : Int) B1 q1 d1 D W q
          rw [hE] at C1
          have C2 := fun A n c W q => DecodeData_calls A n c (encD X D) W q
          rw [hDD] at C2
          generalize encD X D = E at *
          have EL := hideIt el
          have DL := hideIt (show D.length = q1 from q1l)
          have j2 : ((i : Int) == (K : Int) - 1) = false := beq_eq_false_iff_ne.2 (by omega)
          have q0 : ((q1 : Int) == 0) = false := beq_eq_false_iff_ne.2 (by omega)
          have q1b : q1 ≤ 4085 := by omega
          clear h1 h2 hE hDD el hpl hpg hlast q1l
          go_upto_region 19 with (go_at_call 10; refine (C1 _ rD).mono ?_; rintro en w3 ⟨A3, m3, c3, rfl, q3, k3⟩)
          have b3 := blw_step bw k3
          have G3 := G.below k3
          obtain ⟨rfl, g3, rfl, -, o3⟩ := q3.full EL.out (by omega)
          clear G k3 q3 C1 bw cD rD
          go_upto_region 20 with (go_at_call 21; refine (C2 _ _ _ _ o3.read).mono ?_; rintro en w4 ⟨A4, m4, c4, rfl, q4, k4⟩)
          have b4 := blw_step b3 k4
          have G4 := G3.below k4
          obtain rfl : q1 = m4 := by rw [← DL.out]; exact q4.read.len
          clear G3 k4 C2 b3 o3
          have q1p : 0 < q1 := by have := q0; simp at this; omega
          go_wp2_with (first
            | (with_reducible refine wpBG_app rfl (.tmp 94) (.tmp 95) rfl w2.heap.size _ _ _ _ rfl G4 _ _ _ _ rfl q4.read q1p (by omega) b4.size ?_; intro g5 c5 w5 q5 o5 k5)
            | (go_at_call 13; refine (num_calls _ _).mono ?_; rintro en wx ⟨rfl, rfl⟩))
          rw [WS.out] at o5
          have b5 := GC.under G4 b4 k5 b4.size
          go_roundw
          case rel => exact ⟨i + 1, m7 + q1, c5, _, by omega, by go_num, rfl, GB.of o5 q5, b5⟩
          case measure => simp [intOf]; omega
      · obtain rfl : K = i := by omega
        have hall : v.take (4085 * K) = v := by
          have hpg := pages_last n (K - 1) (by rw [HK.out]; omega)
          rw [HK.out] at hpg
          exact List.take_of_length_le (by rw [HL.out]; omega)
        rw [hall] at G
        have hw := h.below (blw_step b2 bw)
        clear hall
        go_wp2_with (go_at_call 12; refine (SameBytes_calls _ _ _ _ _ _ _ _ _ G.read hw true (by simp)).mono ?_; rintro en wx ⟨rfl, rfl⟩)
        go_ret
        exact ⟨rfl, blw_step b2 bw⟩
end Go.Proofs.Ythahedpkefojdaa
