/- leaf.may. -/
import Derived.Test.YtieoleiokjoccaaFc
namespace Go.Proofs.Ytieoleiokjoccaa
open Go.RowKit

def WT : Bool → Bool → Bool → Int
  | false, _, _ => 41
  | true, false, _ => 40
  | true, true, false => 30
  | true, true, true => 0
theorem wrongT_wt {l : List It} (h : ¬ l.length = 0) : wrongT l = WT (l.all lenOk) (l.all holdT) (sorted (keysT l)) := by
  unfold wrongT
  rw [if_neg h]
  cases l.all lenOk <;> cases l.all holdT <;> cases sorted (keysT l) <;> rfl
theorem sortedT_step {l : List (List UInt8)} {i : Nat} {a b : List UInt8} (ha : l[i]? = some a) (hb : l[i + 1]? = some b) : sorted (l.drop i) = (decide (Key.cmpB a b < 0) && sorted (l.drop (i + 1))) := by
  obtain ⟨h1, e1⟩ := List.getElem?_eq_some_iff.1 ha
  obtain ⟨h2, e2⟩ := List.getElem?_eq_some_iff.1 hb
  rw [List.drop_eq_getElem_cons h1, List.drop_eq_getElem_cons h2, e1, e2]; rfl
theorem sortedT_end {l : List (List UInt8)} {i : Nat} (h : l.length ≤ i + 1) : sorted (l.drop i) = true := by
  have : (l.drop i).length ≤ 1 := by rw [List.length_drop]; omega
  match l.drop i, this with
  | [], _ => rfl
  | [_], _ => rfl
  | _ :: _ :: _, h => simp at h
theorem allT_step {α : Type} {f : α → Bool} {l : List α} {i : Nat} {x : α} (h : l[i]? = some x) : (l.drop i).all f = (f x && (l.drop (i + 1)).all f) := by
  obtain ⟨h1, e1⟩ := List.getElem?_eq_some_iff.1 h
  rw [List.drop_eq_getElem_cons h1, e1, List.all_cons]
theorem allT_end {α : Type} {f : α → Bool} {l : List α} {i : Nat} (h : l.length ≤ i) : (l.drop i).all f = true := by rw [List.drop_of_length_le h]; rfl

set_option maxRecDepth 100000 in
set_option maxHeartbeats 8000000 in
theorem may_calls (A : Option Addr) (n c : Nat) (vs : List Value) (l : List It) (w : World) (h : RT w A n c vs l) :
    Calls Try.prog 43 #[.slice A n c] w fun e w' => e = .returned (.int .i64 (wrongT l)) ∧ Below w.heap.size w w' := by
  have HL := hideIt h.len
  have mx := h.max
  by_cases h0 : n = 0
  · have : wrongT l = 40 := by unfold wrongT; rw [if_pos (by rw [HL.out, h0])]
    rw [this]
    subst h0
    go_enter Try.func43, Try.ntmps43
    go_wp2
    go_ret
    exact ⟨rfl, Below.refl _ _⟩
  · rw [wrongT_wt (by rw [HL.out]; exact h0)]
    obtain ⟨r1, hr1⟩ : ∃ r, l.all lenOk = r := ⟨_, rfl⟩
    obtain ⟨r2, hr2⟩ : ∃ r, l.all holdT = r := ⟨_, rfl⟩
    obtain ⟨r3, hr3⟩ : ∃ r, sorted (keysT l) = r := ⟨_, rfl⟩
    rw [hr1, hr2, hr3]
    have H1 : Hid ((l.drop 0).all lenOk = r1) := hideIt hr1
    have H2 : Hid ((l.drop 0).all holdT = r2) := hideIt hr2
    have H3 : Hid (sorted ((keysT l).drop 0) = r3) := hideIt hr3
    have i0 : ((n : Int) == 0) = false := beq_eq_false_iff_ne.2 (by omega)
    clear hr1 hr2 hr3 h0
    go_enter Try.func43, Try.ntmps43
    go_wp2
    go_loopw [15] (fun ii wr => ∃ i, i ≤ n ∧ ii = .int .i64 (i : Int) ∧ Hid ((l.drop i).all lenOk = r1) ∧ Below w.heap.size w wr)
      (fun ii _ => n - (intOf ii).toNat)
    case atStart => exact ⟨0, by omega, rfl, H1, Below.refl _ _⟩
    case round =>
      clear H1
      obtain ⟨i, hi, rfl, H1, bw⟩ := hrel
      by_cases hlt : i < n
      · obtain ⟨ad, ⟨A1, n1, c1⟩, ⟨A3, n3, c3⟩, x, rfl, hx, ⟨q0, q1, q2, q3⟩, rk, -⟩ := (h.below bw).row i hlt
        simp only at q0 q1 rk
        have st := allT_step (f := lenOk) hx
        rw [H1.out] at st
        have hso : lenOk x = (decide (1 ≤ n1 ∧ n1 ≤ 255) && (!decide (x.s < 0) && !decide (262144 < x.s))) := by
          unfold lenOk; rw [rk.len]
          by_cases z1 : 1 ≤ n1 ∧ n1 ≤ 255 <;> by_cases z2 : x.s < 0 <;> by_cases z3 : 262144 < x.s <;> simp [z1, z2, z3] <;> omega
        have ba := below1 wr (.cells #[.slice A1 n1 c1, .slice A3 n3 c3, .int .i64 x.s, .int .i64 x.f] 48)
        have b2 := blw_step bw ba
        have j1 : (i : Int) < (n : Int) := by omega
        obtain ⟨v, hv⟩ : ∃ v, decide (1 ≤ n1 ∧ n1 ≤ 255) = v := ⟨_, rfl⟩
        have IK := fun W => Valid_calls A1 n1 c1 W v hv.symm
        obtain ⟨a1, ha1⟩ : ∃ v, decide (x.s < 0) = v := ⟨_, rfl⟩
        obtain ⟨a2, ha2⟩ : ∃ v, decide (262144 < x.s) = v := ⟨_, rfl⟩
        rw [hv, ha1, ha2] at hso
        rw [hso] at st
        clear hv hso hx rk
        cases v
        · simp only [Bool.false_and] at st
          subst st
          go_wp2_with (go_at_call 68; refine (IK _).mono ?_; rintro en wx ⟨rfl, rfl⟩)
          go_ret
          exact ⟨rfl, b2⟩
        · cases a1
          · cases a2
            · simp only [Bool.not_false, Bool.true_and] at st
              have ST := hideIt st.symm
              clear st
              go_wp2_with (go_at_call 68; refine (IK _).mono ?_; rintro en wx ⟨rfl, rfl⟩)
              go_roundw
              case rel => exact ⟨i + 1, by omega, by go_num, ST, b2⟩
              case measure => simp [intOf]; omega
            · simp only [Bool.not_false, Bool.not_true, Bool.true_and, Bool.false_and] at st
              subst st
              go_wp2_with (go_at_call 68; refine (IK _).mono ?_; rintro en wx ⟨rfl, rfl⟩)
              go_ret
              exact ⟨rfl, b2⟩
          · simp only [Bool.not_true, Bool.true_and, Bool.false_and] at st
            subst st
            go_wp2_with (go_at_call 68; refine (IK _).mono ?_; rintro en wx ⟨rfl, rfl⟩)
            go_ret
            exact ⟨rfl, b2⟩
      · obtain rfl : n = i := by omega
        rw [allT_end (by rw [HL.out]; exact Nat.le_refl _)] at H1
        obtain rfl := H1.out
        clear H1
        go_wp2
        go_loopw [36] (fun ii wr => ∃ i, i ≤ n ∧ ii = .int .i64 (i : Int) ∧ Hid ((l.drop i).all holdT = r2) ∧ Below w.heap.size w wr)
          (fun ii _ => n - (intOf ii).toNat)
        case atStart => exact ⟨0, by omega, rfl, H2, bw⟩
        case round =>
          clear H2 bw
          obtain ⟨i, hi, rfl, H2, bw⟩ := hrel
          by_cases hlt : i < n
          · obtain ⟨ad, ⟨A1, n1, c1⟩, ⟨A3, n3, c3⟩, x, rfl, hx, ⟨q0, q1, q2, q3⟩, -, rv⟩ := (h.below bw).row i hlt
            simp only at q0 q1 rv
            have st := allT_step (f := holdT) hx
            rw [H2.out] at st
            have ba := below1 wr (.cells #[.slice A1 n1 c1, .slice A3 n3 c3, .int .i64 x.s, .int .i64 x.f] 48)
            have b2 := blw_step bw ba
            have j1 : (i : Int) < (n : Int) := by omega
            obtain ⟨b1, hb1⟩ : ∃ b, ((n3 : Int) == x.s) = b := ⟨_, rfl⟩
            obtain ⟨b2', hb2⟩ : ∃ b, (x.f == 0) = b := ⟨_, rfl⟩
            obtain ⟨b3, hb3⟩ : ∃ b, ((n3 : Int) == 0) = b := ⟨_, rfl⟩
            obtain ⟨b4, hb4⟩ : ∃ b, decide (2 ≤ x.f) = b := ⟨_, rfl⟩
            obtain ⟨b5, hb5⟩ : ∃ b, decide (x.f < 524287) = b := ⟨_, rfl⟩
            obtain ⟨ch, hch⟩ : ∃ b, decide (512 < x.s) = b := ⟨_, rfl⟩
            have hso : holdT x = (if ch then (b3 && (b4 && b5)) else (b1 && b2')) := by
              rw [← hb1, ← hb2, ← hb3, ← hb4, ← hb5, ← hch]
              unfold holdT
              rw [rv.len]
              by_cases z : 512 < x.s
              · rw [if_pos z, if_pos (decide_eq_true z), Bool.eq_iff_iff]
                simp only [decide_eq_true_eq, Bool.and_eq_true, beq_iff_eq]
                omega
              · rw [if_neg z, if_neg (by simp [z]), Bool.eq_iff_iff]
                simp only [decide_eq_true_eq, Bool.and_eq_true, beq_iff_eq]
            have CH := fun W => chained_calls x.s ch W hch
            rw [hso] at st
            clear hso hx rv hch
            go_upto_region 12 with fail
            go_cut [7] from 40 to 50 (fun q wx => q = .bool (b1 && b2') ∧ wx = wr.alloc (.cells #[.slice A1 n1 c1, .slice A3 n3 c3, .int .i64 x.s, .int .i64 x.f] 48))
            case first =>
              cases b1 <;> cases b2'
              all_goals go_wp2
              all_goals go_meet
              all_goals exact ⟨rfl, rfl⟩
            case rest =>
              obtain ⟨rfl, rfl⟩ := hcut
              go_upto_region 13 with fail
              go_cut [8] from 51 to 64 (fun q wx => q = .bool (b3 && (b4 && b5)) ∧ wx = wr.alloc (.cells #[.slice A1 n1 c1, .slice A3 n3 c3, .int .i64 x.s, .int .i64 x.f] 48))
              case first =>
                cases b3 <;> cases b4 <;> cases b5
                all_goals go_wp2
                all_goals go_meet
                all_goals exact ⟨rfl, rfl⟩
              case rest =>
                obtain ⟨rfl, rfl⟩ := hcut
                clear hb1 hb2 hb3 hb4 hb5
                generalize (b1 && b2') = I at *
                generalize (b3 && (b4 && b5)) = J at *
                clear ba
                cases ch
                · simp only [Bool.false_eq_true, if_false] at st
                  cases I
                  · rw [Bool.false_and] at st
                    subst st
                    go_wp2_with (go_at_call 35; refine (CH _).mono ?_; rintro en wx ⟨rfl, rfl⟩)
                    go_ret
                    exact ⟨rfl, b2⟩
                  · rw [Bool.true_and] at st
                    have ST := hideIt st.symm
                    clear st
                    go_wp2_with (go_at_call 35; refine (CH _).mono ?_; rintro en wx ⟨rfl, rfl⟩)
                    go_roundw
                    case rel => exact ⟨i + 1, by omega, by go_num, ST, b2⟩
                    case measure => simp [intOf]; omega
                · simp only [if_true] at st
                  cases J
                  · rw [Bool.false_and] at st
                    subst st
                    go_wp2_with (go_at_call 35; refine (CH _).mono ?_; rintro en wx ⟨rfl, rfl⟩)
                    go_ret
                    exact ⟨rfl, b2⟩
                  · rw [Bool.true_and] at st
                    have ST := hideIt st.symm
                    clear st
                    go_wp2_with (go_at_call 35; refine (CH _).mono ?_; rintro en wx ⟨rfl, rfl⟩)
                    go_roundw
                    case rel => exact ⟨i + 1, by omega, by go_num, ST, b2⟩
                    case measure => simp [intOf]; omega
          · obtain rfl : n = i := by omega
            rw [allT_end (by rw [HL.out]; exact Nat.le_refl _)] at H2
            obtain rfl := H2.out
            clear H2
            go_wp2
            go_loopw [9] (fun ii wr => ∃ j : Nat, 1 ≤ j ∧ j ≤ n + 1 ∧ ii = .int .i64 (j : Int) ∧ Hid (sorted ((keysT l).drop (j - 1)) = r3) ∧ Below w.heap.size w wr)
              (fun ii _ => n + 2 - (intOf ii).toNat)
            case atStart => exact ⟨1, by omega, by omega, rfl, H3, bw⟩
            case round =>
              clear H3 bw
              obtain ⟨j, hj, hj2, rfl, H3, bw⟩ := hrel
              by_cases hlt : j < n
              · obtain ⟨ad, ⟨Ai, ni, ci⟩, q, s, rfl, hs, its, rs, -⟩ := (h.below bw).row (j - 1) (by omega)
                obtain ⟨ad', ⟨Aj, nj, cj⟩, q', t, e', ht, itt, rt, -⟩ := (h.below bw).row j hlt
                cases e'
                have hs2 := keysT_get l _ _ hs
                have ht2 := keysT_get l _ _ ht
                have st := sortedT_step hs2 (show (keysT l)[j - 1 + 1]? = some t.k by rw [Nat.sub_add_cancel hj]; exact ht2)
                rw [H3.out] at st
                have cs0 := its.c0
                have ct0 := itt.c0
                simp only at cs0 ct0 rs rt
                have j1 : (j : Int) < (n : Int) := by omega
                have f1 : ((j : Int) - 1).toNat = j - 1 := by omega
                have f2 : (0 : Int) ≤ (j : Int) - 1 := by omega
                have f3 : (j : Int) - 1 < (n : Int) := by omega
                have CM := fun mm => (Compare_calls _ _ _ _ _ _ _ _ (wr.drewN mm) (drewB rs mm) (drewB rt mm)).mono fun _ _ ⟨a, b⟩ => (⟨a, b.symm⟩ : _ ∧ _)
                generalize Key.cmpB s.k t.k = z at CM st
                clear its itt hs ht hs2 ht2
                by_cases hz : z < 0
                · rw [decide_eq_true hz, Bool.true_and] at st
                  have ST := hideIt st.symm
                  have hz' : decide (0 ≤ z) = false := decide_eq_false (by omega)
                  clear st hz
                  go_wp2
                  go_quiet (first | (go_at_call 69; exact Calls.quiet_of_same (CM _)))
                  go_wp2
                  go_roundw
                  case rel => exact ⟨j + 1, by omega, by omega, by go_num, by rw [show j + 1 - 1 = j - 1 + 1 by omega]; exact ST, below_drewN bw _⟩
                  case measure => simp [intOf]; omega
                · rw [decide_eq_false hz, Bool.false_and] at st
                  subst st
                  have hz' : decide (0 ≤ z) = true := decide_eq_true (by omega)
                  clear hz
                  go_wp2
                  go_quiet (first | (go_at_call 69; exact Calls.quiet_of_same (CM _)))
                  go_wp2
                  go_ret
                  exact ⟨rfl, below_drewN bw _⟩
              · rw [sortedT_end (by rw [keysT_length, HL.out]; omega)] at H3
                obtain rfl := H3.out
                have j1 : decide ((j : Int) < (n : Int)) = false := decide_eq_false (by omega)
                go_wp2
                go_ret
                exact ⟨rfl, bw⟩
end Go.Proofs.Ytieoleiokjoccaa
