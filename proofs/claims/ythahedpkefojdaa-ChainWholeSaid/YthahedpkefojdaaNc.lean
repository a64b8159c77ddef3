/- chain: isNext, isData, isList, Pages, zeros. -/
import Derived.Test.YthahedpkefojdaaNa
import Derived.Test.YthahedpkefojdaaNb
namespace Go.Proofs.Ythahedpkefojdaa
open Go.RowKit

theorem ret_bool1 {a b : Bool} (h : a = b) : Ending.returned (.bool a) = Ending.returned (.bool b) := by rw [h]
theorem isNext_yes {x : Int} (h : 2 ≤ x ∧ x ≤ 524286) : isNextB x = true := decide_eq_true (Or.inr h)
theorem isNext_no {x : Int} (h : ¬ (x = 0 ∨ 2 ≤ x ∧ x ≤ 524286)) : isNextB x = false := decide_eq_false h
set_option maxHeartbeats 1000000 in
theorem isNext_calls (x : Int) (w : World) :
    Calls Try.prog 26 #[.int .i64 x] w fun e w' => e = .returned (.bool (isNextB x)) ∧ w = w' := by
  by_cases h0 : x = 0
  · subst h0
    go_enter Try.func26, Try.ntmps26
    go_wp2
    go_ret
    exact ⟨rfl, rfl⟩
  have e0 : (x == 0) = false := beq_eq_false_iff_ne.2 h0
  by_cases h1 : 2 ≤ x
  · by_cases h2 : x ≤ 524286
    · rw [isNext_yes ⟨h1, h2⟩]
      have i2 : x < 524287 := by omega
      go_enter Try.func26, Try.ntmps26
      go_wp2
      go_ret
      exact ⟨ret_bool1 (by simp [*]), rfl⟩
    · rw [isNext_no (by omega)]
      have i2 : ¬ x < 524287 := by omega
      go_enter Try.func26, Try.ntmps26
      go_wp2
      go_ret
      exact ⟨ret_bool1 (by simp), rfl⟩
  · rw [isNext_no (by omega)]
    have i1 : decide (2 ≤ x) = false := decide_eq_false h1
    go_enter Try.func26, Try.ntmps26
    go_wp2
    go_ret
    exact ⟨rfl, rfl⟩

set_option maxHeartbeats 1000000 in
theorem isData_calls (x : Int) (n : Nat) (w : World) :
    Calls Try.prog 27 #[.int .i64 x, .int .i64 (n : Int)] w fun e w' => e = .returned (.bool (isDataB x n)) ∧ w = w' := by
  by_cases h1 : 1 ≤ n
  · have i1 : (1 : Int) ≤ (n : Int) := by omega
    by_cases h2 : n ≤ 4085
    · have i2 : (n : Int) ≤ 4085 := by omega
      by_cases h0 : x = 0
      · subst h0
        rw [show isDataB 0 n = true from decide_eq_true ⟨h1, h2, Or.inl rfl⟩]
        go_enter Try.func27, Try.ntmps27
        go_wp2
        go_ret
        exact ⟨ret_bool1 (by simp), rfl⟩
      · have e0 : (x == 0) = false := beq_eq_false_iff_ne.2 h0
        by_cases h3 : n = 4085
        · subst h3
          rw [show isDataB x 4085 = true from decide_eq_true ⟨h1, h2, Or.inr rfl⟩]
          go_enter Try.func27, Try.ntmps27
          go_wp2
          go_ret
          exact ⟨ret_bool1 (by simp), rfl⟩
        · rw [show isDataB x n = false from decide_eq_false (by omega)]
          have e3 : ((n : Int) == 4085) = false := beq_eq_false_iff_ne.2 (by omega)
          go_enter Try.func27, Try.ntmps27
          go_wp2
          go_ret
          exact ⟨ret_bool1 (by simp), rfl⟩
    · rw [show isDataB x n = false from decide_eq_false (by omega)]
      have i2 : decide ((n : Int) ≤ 4085) = false := decide_eq_false (by omega)
      go_enter Try.func27, Try.ntmps27
      go_wp2
      go_ret
      exact ⟨rfl, rfl⟩
  · rw [show isDataB x n = false from decide_eq_false (by omega)]
    have i2 : decide ((1 : Int) ≤ (n : Int)) = false := decide_eq_false (by omega)
    go_enter Try.func27, Try.ntmps27
    go_wp2
    go_ret
    exact ⟨rfl, rfl⟩

theorem rises_step {p : Int} {l : List Int} {k : Nat} {x : Int} (h : l[k]? = some x) : rises p (l.drop k) = (decide (p < x ∧ x ≤ 524286) && rises x (l.drop (k + 1))) := by
  obtain ⟨hk, e⟩ := List.getElem?_eq_some_iff.1 h
  rw [List.drop_eq_getElem_cons hk, e]; rfl
theorem rises_end {p : Int} {l : List Int} {k : Nat} (h : l.length ≤ k) : rises p (l.drop k) = true := by
  rw [List.drop_of_length_le h]; rfl
set_option maxHeartbeats 2000000 in
theorem isList_calls (x : Int) (A : Option Addr) (n c : Nat) (l : List Int) (w : World) (h : RI w A n c l) :
    Calls Try.prog 31 #[.int .i64 x, .slice A n c] w fun e w' => e = .returned (.bool (isListB x l)) ∧ w = w' := by
  obtain ⟨r, hr⟩ : ∃ r, rises 1 l = r := ⟨_, rfl⟩
  obtain ⟨d, hd⟩ : ∃ d, decide (n ≤ 1021 ∧ (x = 0 ∨ n = 1021)) = d := ⟨_, rfl⟩
  have hB : isListB x l = (d && r) := by unfold isListB; rw [hr, h.len, hd]
  rw [hB]
  have HD := hideIt hd
  have HR := hideIt hr
  have HL := hideIt h.len
  have mx := h.max
  clear hB hr hd
  go_enter Try.func31, Try.ntmps31
  go_wp2
  go_loopw [5, 10] (fun pp kk wr => ∃ (k : Nat) (p : Int), k ≤ n ∧ kk = .int .i64 (k : Int) ∧ pp = .int .i64 p ∧ Hid (rises p (l.drop k) = r) ∧ w = wr)
    (fun _ kk _ => n - (intOf kk).toNat)
  case atStart => exact ⟨0, 1, by omega, rfl, rfl, HR, by trivial⟩
  case round =>
    obtain ⟨k, p, hk, rfl, rfl, HP, rfl⟩ := hrel
    by_cases hlt : k < n
    · obtain ⟨ad, rfl, cell⟩ := h.at_ k (by rw [HL.out]; exact hlt)
      have hx : l[k]? = some (l[k]'(by rw [HL.out]; exact hlt)) := List.getElem?_eq_getElem _
      obtain ⟨z, hz⟩ : ∃ z, l[k]'(by rw [HL.out]; exact hlt) = z := ⟨_, rfl⟩
      rw [hz] at hx cell
      have st := rises_step (p := p) hx
      rw [HP.out] at st
      have i1 : (k : Int) < (n : Int) := by omega
      by_cases h1 : p < z
      · by_cases h2 : z ≤ 524286
        · rw [decide_eq_true (⟨h1, h2⟩ : p < z ∧ z ≤ 524286), Bool.true_and] at st
          have ST := hideIt st.symm
          have i2 : decide (z ≤ p) = false := decide_eq_false (by omega)
          have i3 : decide (524287 ≤ z) = false := decide_eq_false (by omega)
          clear st hx hz h1 h2
          go_wp2
          go_roundw
          case rel => exact ⟨k + 1, z, by omega, by go_num, rfl, ST, by trivial⟩
          case measure => simp [intOf]; omega
        · rw [decide_eq_false (fun q => h2 q.2 : ¬ (p < z ∧ z ≤ 524286)), Bool.false_and] at st
          subst st
          have i2 : decide (z ≤ p) = false := decide_eq_false (by omega)
          have i3 : decide (524287 ≤ z) = true := decide_eq_true (by omega)
          clear hx hz h1 h2
          go_wp2
          go_ret
          exact ⟨ret_bool1 (by cases d <;> rfl), rfl⟩
      · rw [decide_eq_false (fun q => h1 q.1 : ¬ (p < z ∧ z ≤ 524286)), Bool.false_and] at st
        subst st
        have i2 : decide (z ≤ p) = true := decide_eq_true (by omega)
        clear hx hz h1
        go_wp2
        go_ret
        exact ⟨ret_bool1 (by cases d <;> rfl), rfl⟩
    · obtain rfl : n = k := by omega
      have en := rises_end (p := p) (l := l) (k := n) (by rw [HL.out]; exact Nat.le_refl _)
      rw [HP.out] at en
      subst en
      by_cases h1 : n ≤ 1021
      · have i1 : (n : Int) ≤ 1021 := by omega
        by_cases h0 : x = 0
        · subst h0
          obtain rfl : d = true := by rw [← HD.out]; exact decide_eq_true ⟨h1, Or.inl rfl⟩
          go_wp2
          go_ret
          exact ⟨ret_bool1 (by simp), rfl⟩
        · have e0 : (x == 0) = false := beq_eq_false_iff_ne.2 h0
          by_cases h3 : n = 1021
          · obtain rfl : d = true := by rw [← HD.out]; exact decide_eq_true ⟨h1, Or.inr h3⟩
            have e3 : ((n : Int) == 1021) = true := beq_iff_eq.2 (by omega)
            clear h3
            go_wp2
            go_ret
            exact ⟨ret_bool1 (by simp [*]), rfl⟩
          · obtain rfl : d = false := by rw [← HD.out]; exact decide_eq_false (by omega)
            have e3 : ((n : Int) == 1021) = false := beq_eq_false_iff_ne.2 (by omega)
            clear h3
            go_wp2
            go_ret
            exact ⟨ret_bool1 (by simp [*]), rfl⟩
      · obtain rfl : d = false := by rw [← HD.out]; exact decide_eq_false (by omega)
        have i1 : decide ((n : Int) ≤ 1021) = false := decide_eq_false (by omega)
        go_wp2
        go_ret
        exact ⟨rfl, rfl⟩

set_option maxHeartbeats 1000000 in
theorem Pages_calls (n : Int) (w : World) :
    Calls Try.prog 16 #[.int .i64 n] w fun e w' => e = .returned (.int .i64 (pagesS n : Nat)) ∧ w = w' := by
  by_cases h1 : n ≤ 512
  · rw [show pagesS n = 0 from if_pos (Or.inl h1)]
    go_enter Try.func16, Try.ntmps16
    go_wp2
    go_ret
    exact ⟨rfl, rfl⟩
  · have i1 : decide (n ≤ 512) = false := decide_eq_false h1
    by_cases h2 : 262144 < n
    · rw [show pagesS n = 0 from if_pos (Or.inr h2)]
      go_enter Try.func16, Try.ntmps16
      go_wp2
      go_ret
      exact ⟨rfl, rfl⟩
    · have i2 : decide (262144 < n) = false := decide_eq_false h2
      have e : ((pagesS n : Nat) : Int) = (n + 4084) / 4085 := by unfold pagesS; rw [if_neg (by omega)]; omega
      rw [e]
      have i3 : 0 ≤ n := by omega
      have i4 : n ≤ 262144 := by omega
      have i5 : n + 4085 - 1 = n + 4084 := by omega
      clear e h1 h2
      go_enter Try.func16, Try.ntmps16
      go_wp2
      go_ret
      first | exact ⟨rfl, rfl⟩ | exact ⟨by rw [i5], rfl⟩

set_option maxHeartbeats 2000000 in
theorem zeros_calls (A : Option Addr) (n c : Nat) (xs : List UInt8) (w : World) (h : RB w A n c xs) :
    Calls Try.prog 36 #[.slice A n c] w fun e w' => e = .returned (.bool (xs.all (· == 0))) ∧ w = w' := by
  obtain ⟨r, hr⟩ : ∃ r, xs.all (· == 0) = r := ⟨_, rfl⟩
  rw [hr]
  have HL := hideIt h.len
  have mx : n ≤ 9223372036854775807 := by have h1 := RC.le h; have h2 := RC.mx h; rw [maxLen_is] at h2; omega
  have HR : Hid ((xs.drop 0).all (· == 0) = r) := hideIt (by rw [List.drop_zero]; exact hr)
  clear hr
  go_enter Try.func36, Try.ntmps36
  go_wp2
  go_loopw [7] (fun kk wr => ∃ (k : Nat), k ≤ n ∧ kk = .int .i64 (k : Int) ∧ Hid ((xs.drop k).all (· == 0) = r) ∧ w = wr)
    (fun kk _ => n - (intOf kk).toNat)
  case atStart => exact ⟨0, by omega, rfl, HR, by trivial⟩
  case round =>
    obtain ⟨k, hk, rfl, HP, rfl⟩ := hrel
    by_cases hlt : k < n
    · have hkl : k < xs.length := by rw [HL.out]; exact hlt
      obtain ⟨ad, rfl, cell⟩ := h.at_ k hkl
      have st : (xs.drop k).all (· == 0) = ((xs[k] == 0) && (xs.drop (k + 1)).all (· == 0)) := by rw [List.drop_eq_getElem_cons hkl, List.all_cons]
      rw [HP.out] at st
      generalize xs[k] = b at st cell
      have i1 : (k : Int) < (n : Int) := by omega
      by_cases hb : b = 0
      · subst hb
        rw [show ((0 : UInt8) == 0) = true from rfl, Bool.true_and] at st
        have ST := hideIt st.symm
        have cell : w.cell? (ad.add k) = some (.int .u8 0) := cell
        clear st
        go_wp2
        go_roundw
        case rel => exact ⟨k + 1, by omega, by go_num, ST, by trivial⟩
        case measure => simp [intOf]; omega
      · rw [show (b == 0) = false from beq_eq_false_iff_ne.2 hb, Bool.false_and] at st
        subst st
        have e0 : ((b.toNat : Int) == 0) = false := by
          rw [beq_eq_false_iff_ne]; intro q
          exact hb (UInt8.toNat_inj.1 (by show b.toNat = 0; omega))
        have e1 : ((b.toNat : Int) != 0) = true := by simp only [bne, e0]; rfl
        clear hb
        go_wp2
        go_ret
        exact ⟨rfl, rfl⟩
    · obtain rfl : n = k := by omega
      have en : (xs.drop n).all (· == 0) = true := by rw [List.drop_of_length_le (by rw [HL.out]; exact Nat.le_refl _)]; rfl
      rw [HP.out] at en
      subst en
      go_wp2
      go_ret
      exact ⟨rfl, rfl⟩
end Go.Proofs.Ythahedpkefojdaa
