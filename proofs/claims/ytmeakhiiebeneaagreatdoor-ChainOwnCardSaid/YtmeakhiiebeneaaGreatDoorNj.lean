/- coppiceref6: EncodeList. -/
import Derived.Test.YtmeakhiiebeneaaGreatDoorNi
namespace Go.Proofs.YtmeakhiiebeneaaGreatDoor
open Go.RowKit

def LR : Bool → Nat → List Int → List UInt8 × Int
  | true, X, l => (encL X l, 0)
  | false, _, _ => ([], 63)
/-- what stood ahead of place i. -/
def Ahead (l : List Int) (i : Nat) (p : Int) : Prop := (i = 0 ∧ p = 1) ∨ (0 < i ∧ l[i - 1]? = some p ∧ 2 ≤ p)
set_option maxRecDepth 100000 in
set_option maxHeartbeats 8000000 in
theorem refEncodeList_calls (x : Int) (A : Option Addr) (n c : Nat) (l : List Int) (w : World) (h : RI w A n c l) :
    Calls Tryz.prog 38 #[.int .i64 x, .slice A n c] w (Enc w (encLS x l)) := by
  have HL := hideIt h.len
  have mx := h.max
  by_cases h1 : isNextB x = true
  · have IN := fun W => kid_calls x W
    rw [h1] at IN
    by_cases h2 : n ≤ 1021 ∧ (x = 0 ∨ n = 1021)
    · obtain ⟨n2, n3⟩ := h2
      obtain ⟨ex, lx⟩ := isNext_toNat h1
      obtain ⟨r, hr⟩ : ∃ r, rises 1 l = r := ⟨_, rfl⟩
      have hE : encLS x l = LR r x.toNat l := by
        unfold encLS isListB; rw [if_pos h1, hr, HL.out, decide_eq_true (⟨n2, n3⟩ : n ≤ 1021 ∧ (x = 0 ∨ n = 1021)), Bool.true_and]; cases r <;> rfl
      rw [hE]
      generalize x.toNat = X at ex lx hE
      subst ex
      have LN := hideIt (show n < 256 ^ 2 from Nat.lt_of_le_of_lt n2 (by decide))
      have BD := fun W A c rest q hm => body_calls 4 X n A (4 * n) c rest W q hm lx LN.out
      have HE : Hid (hd 4 X n ++ (fours l ++ zer (4085 - 4 * n)) = encL X l) := hideIt (by unfold encL; rw [HL.out])
      have HR := hideIt hr
      have i1 : decide (1021 < (n : Int)) = false := decide_eq_false (by omega)
      clear h1 hE lx hr
      by_cases hx0 : X = 0

      · subst hx0
        go_enter Tryz.func38, Tryz.ntmps38
        go_wp2_with (go_at_call 89; refine (IN _).mono ?_; rintro en wx ⟨rfl, rfl⟩)
        go_loopw [7, 8] (fun rr ii wr => ∃ (i m c7 : Nat) (A7 : Option Addr) (p : Int), i ≤ n ∧ m = 4 * i ∧ rr = .slice A7 m c7 ∧ ii = .int .i64 (i : Int) ∧ GB wr w.heap.size A7 m c7 (fours (l.take i)) ∧ Hid (Ahead l i p) ∧ Hid (rises p (l.drop i) = r) ∧ Below w.heap.size w wr)
          (fun _ ii _ => n - (intOf ii).toNat)
        case atStart => exact ⟨0, 0, 0, none, 1, by omega, rfl, rfl, rfl, GB.none_ _ _, hideIt (Or.inl ⟨rfl, rfl⟩), HR, Below.refl _ _⟩
        case round =>
          obtain ⟨i, m, c7, A7, p, hi, hm, rfl, rfl, G, HA, HP, bw⟩ := hrel
          by_cases hlt : i < n
          · have hil : i < l.length := by rw [HL.out]; exact hlt
            obtain ⟨ad, rfl, cell⟩ := (h.below bw).at_ i hil
            have hx : l[i]? = some l[i] := List.getElem?_eq_getElem hil
            have htk : fours (l.take (i + 1)) = fours (l.take i) ++ leB l[i].toNat 4 := by rw [← List.take_append_getElem hil, fours_append, fours_one]
            obtain ⟨z, hz⟩ : ∃ z, l[i] = z := ⟨_, rfl⟩
            rw [hz] at hx cell htk
            have st := rises_step (p := p) hx
            rw [HP.out] at st
            have j1 : (i : Int) < (n : Int) := by omega
            have HT := hideIt htk
            have HX := hideIt hx
            have hA := HA.out
            have lm : 4 * i = m := hm.symm
            have LM := hideIt lm
            have ml : m + 4 ≤ 4084 := by omega
            clear htk hx hz HP HA hm lm
            rcases hA with ⟨rfl, rfl⟩ | ⟨i0, hp, p2⟩
            · have k0 : decide ((0 : Int) < 0) = false := rfl
              have cell : wr.cell? ad = some (.int .i64 z) := by rw [← Addr.add_zero' ad]; exact cell
              by_cases hg : 1 < z ∧ z ≤ 524286
              · rw [decide_eq_true hg, Bool.true_and] at st
                have ST := hideIt st.symm
                have t1 : decide (z < 2) = false := decide_eq_false (by omega)
                have t2 : decide (524286 < z) = false := decide_eq_false (by omega)
                obtain ⟨Z, rfl⟩ : ∃ Z : Nat, z = (Z : Int) := ⟨z.toNat, by omega⟩
                have zl : Z < 9223372036854775808 := by omega
                have NC := fun W => number_calls Z 4 W (by decide) zl
                have ab : Ahead l (0 + 1) (Z : Int) := Or.inr ⟨by omega, by rw [Nat.add_sub_cancel]; exact HX.out, by omega⟩
                have AB := hideIt ab
                rw [Int.toNat_natCast] at HT
                clear st zl ab hg HX
                go_wp2
                go_quiet (fail)
                have bd := below_drewN (Below.refl wr.heap.size wr) nq
                have Gd := G.below bd
                have bwd := below_drewN bw nq
                have celld : (wr.drewN nq).cell? ad = some (.int .i64 (Z : Int)) := cell
                clear G bw cell bd
                generalize wr.drewN nq = w1 at *
                have bs := bwd.size
                go_wp2_with (first
                  | (with_reducible refine wpBG_app rfl (.tmp 57) (.tmp 62) rfl w.heap.size _ _ _ _ rfl G2 _ _ _ _ rfl q2.read (by decide) (by omega) b2.size ?_; intro g4 c4 w4 q4 o4 k4)
                  | (go_at_call 92; refine (NC _).mono ?_; rintro en w2 ⟨A2, c2, rfl, q2, bb2⟩; have G2 := Gd.below bb2; have b2 := blw_step bwd bb2))
                have b4 := GC.under G2 b2 k4 b2.size
                rw [← HT.out] at o4
                go_roundw
                case rel => exact ⟨0 + 1, m + 4, c4, _, _, by omega, by rw [← LM.out], rfl, by go_num, GB.of o4 q4, AB, ST, b4⟩
                case measure => simp [intOf]; omega
              · rw [decide_eq_false hg, Bool.false_and] at st
                subst st
                by_cases u1 : z < 2
                · have t1 : decide (z < 2) = true := decide_eq_true u1
                  clear u1
                  go_wp2
                  go_quiet (fail)
                  go_wp2
                  go_ret2
                  exact ⟨_, _, _, rfl, GB.none_ _ _, below_drewN bw _⟩
                · have t1 : decide (z < 2) = false := decide_eq_false u1
                  have t2 : decide (524286 < z) = true := decide_eq_true (by omega)
                  clear u1
                  go_wp2
                  go_quiet (fail)
                  go_wp2
                  go_ret2
                  exact ⟨_, _, _, rfl, GB.none_ _ _, below_drewN bw _⟩
            · obtain ⟨ad', e', cell2⟩ := (h.below bw).at_ (i - 1) (by omega)
              cases e'
              have hp' : l[i - 1]? = some (l[i - 1]'(by omega)) := List.getElem?_eq_getElem _
              rw [hp] at hp'
              injection hp' with hp'
              rw [← hp'] at cell2
              have k0 : (0 : Int) < (i : Int) := by omega
              have k1 : ((i : Int) - 1).toNat = i - 1 := by omega
              have k2 : (i : Int) - 1 < (n : Int) := by omega
              have k3 : (0 : Int) ≤ (i : Int) - 1 := by omega
              clear hp hp'
              by_cases hg : p < z ∧ z ≤ 524286
              · rw [decide_eq_true hg, Bool.true_and] at st
                have ST := hideIt st.symm
                have t1 : decide (z < 2) = false := decide_eq_false (by omega)
                have t2 : decide (524286 < z) = false := decide_eq_false (by omega)
                have t3 : decide (z ≤ p) = false := decide_eq_false (by omega)
                obtain ⟨Z, rfl⟩ : ∃ Z : Nat, z = (Z : Int) := ⟨z.toNat, by omega⟩
                have zl : Z < 9223372036854775808 := by omega
                have NC := fun W => number_calls Z 4 W (by decide) zl
                have ab : Ahead l (i + 1) (Z : Int) := Or.inr ⟨by omega, by rw [Nat.add_sub_cancel]; exact HX.out, by omega⟩
                have AB := hideIt ab
                rw [Int.toNat_natCast] at HT
                clear st zl ab hg HX
                go_wp2
                go_quiet (fail)
                have bd := below_drewN (Below.refl wr.heap.size wr) nq
                have Gd := G.below bd
                have bwd := below_drewN bw nq
                have celld : (wr.drewN nq).cell? (ad.add i) = some (.int .i64 (Z : Int)) := cell
                clear G bw cell bd
                generalize wr.drewN nq = w1 at *
                have bs := bwd.size
                go_wp2_with (first
                  | (with_reducible refine wpBG_app rfl (.tmp 57) (.tmp 62) rfl w.heap.size _ _ _ _ rfl G2 _ _ _ _ rfl q2.read (by decide) (by omega) b2.size ?_; intro g4 c4 w4 q4 o4 k4)
                  | (go_at_call 92; refine (NC _).mono ?_; rintro en w2 ⟨A2, c2, rfl, q2, bb2⟩; have G2 := Gd.below bb2; have b2 := blw_step bwd bb2))
                have b4 := GC.under G2 b2 k4 b2.size
                rw [← HT.out] at o4
                go_roundw
                case rel => exact ⟨i + 1, m + 4, c4, _, _, by omega, by rw [← LM.out]; omega, rfl, by go_num, GB.of o4 q4, AB, ST, b4⟩
                case measure => simp [intOf]; omega
              · rw [decide_eq_false hg, Bool.false_and] at st
                subst st
                by_cases u1 : z < 2
                · have t1 : decide (z < 2) = true := decide_eq_true u1
                  clear u1
                  go_wp2
                  go_quiet (fail)
                  go_wp2
                  go_ret2
                  exact ⟨_, _, _, rfl, GB.none_ _ _, below_drewN bw _⟩
                · have t1 : decide (z < 2) = false := decide_eq_false u1
                  by_cases u2 : 524286 < z
                  · have t2 : decide (524286 < z) = true := decide_eq_true u2
                    clear u1 u2
                    go_wp2
                    go_quiet (fail)
                    go_wp2
                    go_ret2
                    exact ⟨_, _, _, rfl, GB.none_ _ _, below_drewN bw _⟩
                  · have t2 : decide (524286 < z) = false := decide_eq_false u2
                    have t3 : decide (z ≤ p) = true := decide_eq_true (by omega)
                    clear u1 u2
                    go_wp2
                    go_quiet (fail)
                    go_wp2
                    go_ret2
                    exact ⟨_, _, _, rfl, GB.none_ _ _, below_drewN bw _⟩
          · obtain rfl : n = i := by omega
            rw [rises_end (by rw [HL.out]; exact Nat.le_refl _)] at HP
            obtain rfl := HP.out.symm
            have et : l.take n = l := List.take_of_length_le (by rw [HL.out]; exact Nat.le_refl _)
            rw [et] at G
            obtain rfl : m = 4 * n := hm
            have bd := BD wr A7 c7 _ G.read (by omega)
            clear HA HP et
            go_wp2_with (go_at_call 90; refine bd.mono ?_; rintro en w1 ⟨g, c1, rfl, s1, o1, b1⟩)
            rw [HE.out] at o1
            go_ret2
            exact ⟨_, _, _, rfl, GB.of o1 (Nat.le_trans bw.size s1), blw_step bw b1⟩

      · have i4 : ((n : Int) != 1021) = false := by rw [bne_eq_false_iff_eq]; omega
        have i3 : ((X : Int) != 0) = true := by rw [bne_iff_ne]; omega
        clear hx0 n3
        go_enter Tryz.func38, Tryz.ntmps38
        go_wp2_with (go_at_call 89; refine (IN _).mono ?_; rintro en wx ⟨rfl, rfl⟩)
        go_loopw [7, 8] (fun rr ii wr => ∃ (i m c7 : Nat) (A7 : Option Addr) (p : Int), i ≤ n ∧ m = 4 * i ∧ rr = .slice A7 m c7 ∧ ii = .int .i64 (i : Int) ∧ GB wr w.heap.size A7 m c7 (fours (l.take i)) ∧ Hid (Ahead l i p) ∧ Hid (rises p (l.drop i) = r) ∧ Below w.heap.size w wr)
          (fun _ ii _ => n - (intOf ii).toNat)
        case atStart => exact ⟨0, 0, 0, none, 1, by omega, rfl, rfl, rfl, GB.none_ _ _, hideIt (Or.inl ⟨rfl, rfl⟩), HR, Below.refl _ _⟩
        case round =>
          obtain ⟨i, m, c7, A7, p, hi, hm, rfl, rfl, G, HA, HP, bw⟩ := hrel
          by_cases hlt : i < n
          · have hil : i < l.length := by rw [HL.out]; exact hlt
            obtain ⟨ad, rfl, cell⟩ := (h.below bw).at_ i hil
            have hx : l[i]? = some l[i] := List.getElem?_eq_getElem hil
            have htk : fours (l.take (i + 1)) = fours (l.take i) ++ leB l[i].toNat 4 := by rw [← List.take_append_getElem hil, fours_append, fours_one]
            obtain ⟨z, hz⟩ : ∃ z, l[i] = z := ⟨_, rfl⟩
            rw [hz] at hx cell htk
            have st := rises_step (p := p) hx
            rw [HP.out] at st
            have j1 : (i : Int) < (n : Int) := by omega
            have HT := hideIt htk
            have HX := hideIt hx
            have hA := HA.out
            have lm : 4 * i = m := hm.symm
            have LM := hideIt lm
            have ml : m + 4 ≤ 4084 := by omega
            clear htk hx hz HP HA hm lm
            rcases hA with ⟨rfl, rfl⟩ | ⟨i0, hp, p2⟩
            · have k0 : decide ((0 : Int) < 0) = false := rfl
              have cell : wr.cell? ad = some (.int .i64 z) := by rw [← Addr.add_zero' ad]; exact cell
              by_cases hg : 1 < z ∧ z ≤ 524286
              · rw [decide_eq_true hg, Bool.true_and] at st
                have ST := hideIt st.symm
                have t1 : decide (z < 2) = false := decide_eq_false (by omega)
                have t2 : decide (524286 < z) = false := decide_eq_false (by omega)
                obtain ⟨Z, rfl⟩ : ∃ Z : Nat, z = (Z : Int) := ⟨z.toNat, by omega⟩
                have zl : Z < 9223372036854775808 := by omega
                have NC := fun W => number_calls Z 4 W (by decide) zl
                have ab : Ahead l (0 + 1) (Z : Int) := Or.inr ⟨by omega, by rw [Nat.add_sub_cancel]; exact HX.out, by omega⟩
                have AB := hideIt ab
                rw [Int.toNat_natCast] at HT
                clear st zl ab hg HX
                go_wp2
                go_quiet (fail)
                have bd := below_drewN (Below.refl wr.heap.size wr) nq
                have Gd := G.below bd
                have bwd := below_drewN bw nq
                have celld : (wr.drewN nq).cell? ad = some (.int .i64 (Z : Int)) := cell
                clear G bw cell bd
                generalize wr.drewN nq = w1 at *
                have bs := bwd.size
                go_wp2_with (first
                  | (with_reducible refine wpBG_app rfl (.tmp 57) (.tmp 62) rfl w.heap.size _ _ _ _ rfl G2 _ _ _ _ rfl q2.read (by decide) (by omega) b2.size ?_; intro g4 c4 w4 q4 o4 k4)
                  | (go_at_call 92; refine (NC _).mono ?_; rintro en w2 ⟨A2, c2, rfl, q2, bb2⟩; have G2 := Gd.below bb2; have b2 := blw_step bwd bb2))
                have b4 := GC.under G2 b2 k4 b2.size
                rw [← HT.out] at o4
                go_roundw
                case rel => exact ⟨0 + 1, m + 4, c4, _, _, by omega, by rw [← LM.out], rfl, by go_num, GB.of o4 q4, AB, ST, b4⟩
                case measure => simp [intOf]; omega
              · rw [decide_eq_false hg, Bool.false_and] at st
                subst st
                by_cases u1 : z < 2
                · have t1 : decide (z < 2) = true := decide_eq_true u1
                  clear u1
                  go_wp2
                  go_quiet (fail)
                  go_wp2
                  go_ret2
                  exact ⟨_, _, _, rfl, GB.none_ _ _, below_drewN bw _⟩
                · have t1 : decide (z < 2) = false := decide_eq_false u1
                  have t2 : decide (524286 < z) = true := decide_eq_true (by omega)
                  clear u1
                  go_wp2
                  go_quiet (fail)
                  go_wp2
                  go_ret2
                  exact ⟨_, _, _, rfl, GB.none_ _ _, below_drewN bw _⟩
            · obtain ⟨ad', e', cell2⟩ := (h.below bw).at_ (i - 1) (by omega)
              cases e'
              have hp' : l[i - 1]? = some (l[i - 1]'(by omega)) := List.getElem?_eq_getElem _
              rw [hp] at hp'
              injection hp' with hp'
              rw [← hp'] at cell2
              have k0 : (0 : Int) < (i : Int) := by omega
              have k1 : ((i : Int) - 1).toNat = i - 1 := by omega
              have k2 : (i : Int) - 1 < (n : Int) := by omega
              have k3 : (0 : Int) ≤ (i : Int) - 1 := by omega
              clear hp hp'
              by_cases hg : p < z ∧ z ≤ 524286
              · rw [decide_eq_true hg, Bool.true_and] at st
                have ST := hideIt st.symm
                have t1 : decide (z < 2) = false := decide_eq_false (by omega)
                have t2 : decide (524286 < z) = false := decide_eq_false (by omega)
                have t3 : decide (z ≤ p) = false := decide_eq_false (by omega)
                obtain ⟨Z, rfl⟩ : ∃ Z : Nat, z = (Z : Int) := ⟨z.toNat, by omega⟩
                have zl : Z < 9223372036854775808 := by omega
                have NC := fun W => number_calls Z 4 W (by decide) zl
                have ab : Ahead l (i + 1) (Z : Int) := Or.inr ⟨by omega, by rw [Nat.add_sub_cancel]; exact HX.out, by omega⟩
                have AB := hideIt ab
                rw [Int.toNat_natCast] at HT
                clear st zl ab hg HX
                go_wp2
                go_quiet (fail)
                have bd := below_drewN (Below.refl wr.heap.size wr) nq
                have Gd := G.below bd
                have bwd := below_drewN bw nq
                have celld : (wr.drewN nq).cell? (ad.add i) = some (.int .i64 (Z : Int)) := cell
                clear G bw cell bd
                generalize wr.drewN nq = w1 at *
                have bs := bwd.size
                go_wp2_with (first
                  | (with_reducible refine wpBG_app rfl (.tmp 57) (.tmp 62) rfl w.heap.size _ _ _ _ rfl G2 _ _ _ _ rfl q2.read (by decide) (by omega) b2.size ?_; intro g4 c4 w4 q4 o4 k4)
                  | (go_at_call 92; refine (NC _).mono ?_; rintro en w2 ⟨A2, c2, rfl, q2, bb2⟩; have G2 := Gd.below bb2; have b2 := blw_step bwd bb2))
                have b4 := GC.under G2 b2 k4 b2.size
                rw [← HT.out] at o4
                go_roundw
                case rel => exact ⟨i + 1, m + 4, c4, _, _, by omega, by rw [← LM.out]; omega, rfl, by go_num, GB.of o4 q4, AB, ST, b4⟩
                case measure => simp [intOf]; omega
              · rw [decide_eq_false hg, Bool.false_and] at st
                subst st
                by_cases u1 : z < 2
                · have t1 : decide (z < 2) = true := decide_eq_true u1
                  clear u1
                  go_wp2
                  go_quiet (fail)
                  go_wp2
                  go_ret2
                  exact ⟨_, _, _, rfl, GB.none_ _ _, below_drewN bw _⟩
                · have t1 : decide (z < 2) = false := decide_eq_false u1
                  by_cases u2 : 524286 < z
                  · have t2 : decide (524286 < z) = true := decide_eq_true u2
                    clear u1 u2
                    go_wp2
                    go_quiet (fail)
                    go_wp2
                    go_ret2
                    exact ⟨_, _, _, rfl, GB.none_ _ _, below_drewN bw _⟩
                  · have t2 : decide (524286 < z) = false := decide_eq_false u2
                    have t3 : decide (z ≤ p) = true := decide_eq_true (by omega)
                    clear u1 u2
                    go_wp2
                    go_quiet (fail)
                    go_wp2
                    go_ret2
                    exact ⟨_, _, _, rfl, GB.none_ _ _, below_drewN bw _⟩
          · obtain rfl : n = i := by omega
            rw [rises_end (by rw [HL.out]; exact Nat.le_refl _)] at HP
            obtain rfl := HP.out.symm
            have et : l.take n = l := List.take_of_length_le (by rw [HL.out]; exact Nat.le_refl _)
            rw [et] at G
            obtain rfl : m = 4 * n := hm
            have bd := BD wr A7 c7 _ G.read (by omega)
            clear HA HP et
            go_wp2_with (go_at_call 90; refine bd.mono ?_; rintro en w1 ⟨g, c1, rfl, s1, o1, b1⟩)
            rw [HE.out] at o1
            go_ret2
            exact ⟨_, _, _, rfl, GB.of o1 (Nat.le_trans bw.size s1), blw_step bw b1⟩

    · have hE : encLS x l = ([], 63) := by unfold encLS isListB; rw [if_pos h1, HL.out, decide_eq_false h2]; rfl
      rw [hE]
      have hcs : 1021 < n ∨ (n ≤ 1021 ∧ x ≠ 0 ∧ n ≠ 1021) := by omega
      clear h1 h2 hE
      rcases hcs with hc | ⟨c1, c3, c4⟩
      · have i1 : decide (1021 < (n : Int)) = true := decide_eq_true (by omega)
        go_enter Tryz.func38, Tryz.ntmps38
        go_wp2_with (go_at_call 89; refine (IN _).mono ?_; rintro en wx ⟨rfl, rfl⟩)
        go_ret2
        exact ⟨_, _, _, rfl, GB.none_ _ _, Below.refl _ _⟩
      · have i1 : decide (1021 < (n : Int)) = false := decide_eq_false (by omega)
        have i3 : (x != 0) = true := by rw [bne_iff_ne]; exact c3
        have i4 : ((n : Int) != 1021) = true := by rw [bne_iff_ne]; omega
        clear c3 c4
        go_enter Tryz.func38, Tryz.ntmps38
        go_wp2_with (go_at_call 89; refine (IN _).mono ?_; rintro en wx ⟨rfl, rfl⟩)
        go_ret2
        exact ⟨_, _, _, rfl, GB.none_ _ _, Below.refl _ _⟩
  · have h1' : isNextB x = false := by simpa using h1
    have IN := fun W => kid_calls x W
    rw [h1'] at IN
    have hE : encLS x l = ([], 51) := by unfold encLS; rw [if_neg h1]
    rw [hE]
    clear h1 h1' hE
    go_enter Tryz.func38, Tryz.ntmps38
    go_wp2_with (go_at_call 89; refine (IN _).mono ?_; rintro en wx ⟨rfl, rfl⟩)
    go_ret2
    exact ⟨_, _, _, rfl, GB.none_ _ _, Below.refl _ _⟩
end Go.Proofs.YtmeakhiiebeneaaGreatDoor
