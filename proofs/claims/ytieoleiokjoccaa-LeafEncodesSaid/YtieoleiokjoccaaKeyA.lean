/- Plain laws of byte strings in order. No program in sight. -/
import Derived.Lib.Bytealg
namespace Go.Proofs.Ytieoleiokjoccaa.Key
open Go.Lib

def cmpB (a b : List UInt8) : Int := compareBytes a b
def com : List UInt8 → List UInt8 → Nat
  | a :: as, b :: bs => if a = b then com as bs + 1 else 0
  | _, _ => 0
def comAll : List (List UInt8) → Nat
  | [] => 0
  | x :: l => l.foldl (fun n s => min n (com x s)) x.length

theorem cmpB_nil (b : List UInt8) : cmpB [] b = if b = [] then 0 else -1 := by cases b <;> simp [cmpB, compareBytes]
theorem cmpB_nil' (a : List UInt8) : cmpB a [] = if a = [] then 0 else 1 := by cases a <;> simp [cmpB, compareBytes]
theorem cmpB_cons (a b : UInt8) (as bs : List UInt8) : cmpB (a :: as) (b :: bs) = if a < b then -1 else if b < a then 1 else cmpB as bs := by unfold cmpB; rw [compareBytes]
theorem com_nil (b : List UInt8) : com [] b = 0 := by cases b <;> rfl
theorem com_nil' (a : List UInt8) : com a [] = 0 := by cases a <;> rfl
theorem com_cons (a b : UInt8) (as bs : List UInt8) : com (a :: as) (b :: bs) = if a = b then com as bs + 1 else 0 := rfl

theorem u8_lt_trans {a b c : UInt8} (h : a < b) (k : b < c) : a < c := by
  rw [UInt8.lt_iff_toNat_lt] at *; omega
theorem u8_eq {a b : UInt8} (h : ¬ a < b) (k : ¬ b < a) : a = b := by
  rw [UInt8.lt_iff_toNat_lt] at h k
  exact UInt8.toNat_inj.1 (by omega)
theorem u8_irr (a : UInt8) : ¬ a < a := by rw [UInt8.lt_iff_toNat_lt]; omega
theorem u8_asym {a b : UInt8} (h : a < b) : ¬ b < a := by rw [UInt8.lt_iff_toNat_lt] at *; omega
theorem u8_ne {a b : UInt8} (h : a < b) : a ≠ b := fun e => by subst e; exact u8_irr a h

theorem cmpB_three (a b : List UInt8) : cmpB a b = -1 ∨ cmpB a b = 0 ∨ cmpB a b = 1 := by
  induction a generalizing b with
  | nil => rw [cmpB_nil]; split <;> simp
  | cons x a ih =>
    cases b with
    | nil => rw [cmpB_nil']; simp
    | cons y b =>
      rw [cmpB_cons]
      by_cases h : x < y
      · rw [if_pos h]; exact Or.inl rfl
      · rw [if_neg h]
        by_cases k : y < x
        · rw [if_pos k]; exact Or.inr (Or.inr rfl)
        · rw [if_neg k]; exact ih b
theorem cmpB_neg (a b : List UInt8) : cmpB b a = - cmpB a b := by
  induction a generalizing b with
  | nil => rw [cmpB_nil, cmpB_nil']; split <;> simp
  | cons x a ih =>
    cases b with
    | nil => simp [cmpB_nil, cmpB_nil']
    | cons y b =>
      rw [cmpB_cons, cmpB_cons, ih b]
      by_cases h : x < y
      · rw [if_pos h, if_neg (u8_asym h), if_pos h]; rfl
      · rw [if_neg h, if_neg h]
        by_cases k : y < x
        · rw [if_pos k, if_pos k]
        · rw [if_neg k, if_neg k]
theorem cmpB_zero (a b : List UInt8) : cmpB a b = 0 ↔ a = b := by
  induction a generalizing b with
  | nil => rw [cmpB_nil]; cases b <;> simp
  | cons x a ih =>
    cases b with
    | nil => rw [cmpB_nil']; simp
    | cons y b =>
      rw [cmpB_cons, List.cons.injEq, ← ih b]
      by_cases h : x < y
      · rw [if_pos h]; simp [u8_ne h]
      · rw [if_neg h]
        by_cases k : y < x
        · rw [if_pos k]; simp [(u8_ne k).symm]
        · rw [if_neg k]; simp [u8_eq h k]
theorem cmpB_refl (a : List UInt8) : cmpB a a = 0 := (cmpB_zero a a).2 rfl
theorem cmpB_append (p a b : List UInt8) : cmpB (p ++ a) (p ++ b) = cmpB a b := by
  induction p with
  | nil => rfl
  | cons x p ih => rw [List.cons_append, List.cons_append, cmpB_cons, if_neg (u8_irr x), if_neg (u8_irr x), ih]
/-- ahead: the first is smaller. -/
theorem cmpB_trans (a b c : List UInt8) (h : cmpB a b = -1) (k : cmpB b c = -1) : cmpB a c = -1 := by
  induction a generalizing b c with
  | nil =>
    cases c with
    | nil => cases b with
      | nil => exact h
      | cons y b => rw [cmpB_nil'] at k; simp at k
    | cons z c => rw [cmpB_nil]; simp
  | cons x a ih =>
    cases b with
    | nil => rw [cmpB_nil'] at h; simp at h
    | cons y b =>
      cases c with
      | nil => rw [cmpB_nil'] at k; simp at k
      | cons z c =>
        rw [cmpB_cons] at h k ⊢
        by_cases h1 : x < y
        · by_cases k1 : y < z
          · rw [if_pos (u8_lt_trans h1 k1)]
          · rw [if_neg k1] at k
            by_cases k2 : z < y
            · rw [if_pos k2] at k; simp at k
            · obtain rfl := u8_eq k1 k2
              rw [if_pos h1]
        · rw [if_neg h1] at h
          by_cases h2 : y < x
          · rw [if_pos h2] at h; simp at h
          · obtain rfl := u8_eq h1 h2
            rw [if_neg h2] at h
            by_cases k1 : x < z
            · rw [if_pos k1]
            · rw [if_neg k1] at k ⊢
              by_cases k2 : z < x
              · rw [if_pos k2] at k; simp at k
              · rw [if_neg k2] at k ⊢
                exact ih b c h k
theorem order (a b c : List UInt8) (h : cmpB a b ≤ 0) (k : cmpB b c ≤ 0) : ¬ (cmpB a c > 0 ∨ cmpB a c = 0 ∧ (cmpB a b < 0 ∨ cmpB b c < 0)) := by
  rcases cmpB_three a b with h1 | h1 | h1
  · rcases cmpB_three b c with k1 | k1 | k1
    · rw [cmpB_trans a b c h1 k1]; simp
    · obtain rfl := (cmpB_zero b c).1 k1
      rw [h1]; simp
    · omega
  · obtain rfl := (cmpB_zero a b).1 h1
    rw [h1]
    rintro (q | ⟨q, q' | q'⟩) <;> omega
  · omega

theorem com_le (a b : List UInt8) : com a b ≤ a.length := by
  induction a generalizing b with
  | nil => rw [com_nil]; exact Nat.le_refl _
  | cons x a ih => cases b with
    | nil => rw [com_nil']; exact Nat.zero_le _
    | cons y b => rw [com_cons]; split
                  · have := ih b; simp; omega
                  · exact Nat.zero_le _
theorem com_le' (a b : List UInt8) : com a b ≤ b.length := by
  induction a generalizing b with
  | nil => rw [com_nil]; exact Nat.zero_le _
  | cons x a ih => cases b with
    | nil => rw [com_nil']; exact Nat.zero_le _
    | cons y b => rw [com_cons]; split
                  · have := ih b; simp; omega
                  · exact Nat.zero_le _
theorem com_take (a b : List UInt8) (n : Nat) (h : n ≤ a.length) : com (a.take n) b = min n (com a b) := by
  induction n generalizing a b with
  | zero => rw [List.take_zero, com_nil]; omega
  | succ n ih =>
    cases a with
    | nil => simp at h
    | cons x a =>
      rw [List.take_succ_cons]
      cases b with
      | nil => rw [com_nil', com_nil']; omega
      | cons y b =>
        rw [com_cons, com_cons, ih a b (by simpa using h)]
        split <;> omega
/-- one more than in common: the separator. -/
theorem sep (a b : List UInt8) (h : cmpB a b = -1) : com a b < b.length ∧ cmpB a (b.take (com a b + 1)) = -1 ∧ cmpB (b.take (com a b + 1)) b ≤ 0 ∧ ∀ s : List UInt8, s.length < com a b + 1 → 0 ≤ cmpB a s ∨ 0 < cmpB s b := by
  induction a generalizing b with
  | nil =>
    cases b with
    | nil => rw [cmpB_nil] at h; simp at h
    | cons y b =>
      rw [com_nil]
      refine ⟨by simp, by rw [List.take_succ_cons, cmpB_nil]; simp, ?_, fun s hs => ?_⟩
      · rw [List.take_succ_cons, cmpB_cons, if_neg (u8_irr y), if_neg (u8_irr y), List.take_zero, cmpB_nil]; split <;> omega
      · have : s = [] := List.eq_nil_of_length_eq_zero (by omega)
        subst this
        left; rw [cmpB_refl]; omega
  | cons x a ih =>
    cases b with
    | nil => rw [cmpB_nil'] at h; simp at h
    | cons y b =>
      rw [cmpB_cons] at h
      rw [com_cons]
      by_cases e : x = y
      · subst e
        rw [if_neg (u8_irr x), if_neg (u8_irr x)] at h
        obtain ⟨i1, i2, i3, i4⟩ := ih b h
        rw [if_pos rfl]
        refine ⟨by simp; omega, ?_, ?_, fun s hs => ?_⟩
        · rw [List.take_succ_cons, cmpB_cons, if_neg (u8_irr x), if_neg (u8_irr x)]; exact i2
        · rw [List.take_succ_cons, cmpB_cons, if_neg (u8_irr x), if_neg (u8_irr x)]; exact i3
        · cases s with
          | nil => left; rw [cmpB_nil']; simp
          | cons z s =>
            have hs' : s.length < com a b + 1 := by simp at hs; omega
            rw [cmpB_cons, cmpB_cons]
            by_cases k1 : x < z
            · right; rw [if_neg (u8_asym k1), if_pos k1]; omega
            · rw [if_neg k1]
              by_cases k2 : z < x
              · left; rw [if_pos k2]; omega
              · rw [if_neg k2, if_neg k2, if_neg k1]; exact i4 s hs'
      · rw [if_neg e]
        have lt : x < y := by
          by_cases k : x < y
          · exact k
          · rw [if_neg k] at h
            by_cases k2 : y < x
            · rw [if_pos k2] at h; simp at h
            · exact absurd (u8_eq k k2) e
        refine ⟨by simp, ?_, ?_, fun s hs => ?_⟩
        · rw [List.take_succ_cons, cmpB_cons, if_pos lt]
        · rw [List.take_succ_cons, cmpB_cons, if_neg (u8_irr y), if_neg (u8_irr y), List.take_zero, cmpB_nil]; split <;> omega
        · have : s = [] := List.eq_nil_of_length_eq_zero (by omega)
          subst this
          left; rw [cmpB_nil']; simp
/-- of three that rise. -/
theorem com_three (a b c : List UInt8) (h : cmpB a b ≤ 0) (k : cmpB b c ≤ 0) : com a c = min (com a b) (com b c) := by
  induction a generalizing b c with
  | nil => rw [com_nil, com_nil]; omega
  | cons x a ih =>
    cases b with
    | nil => rw [cmpB_nil'] at h; simp at h
    | cons y b =>
      cases c with
      | nil => rw [cmpB_nil'] at k; simp at k
      | cons z c =>
        rw [cmpB_cons] at h k
        rw [com_cons, com_cons, com_cons]
        have h1 : ¬ y < x := fun q => by rw [if_neg (u8_asym q), if_pos q] at h; simp at h
        have k1 : ¬ z < y := fun q => by rw [if_neg (u8_asym q), if_pos q] at k; simp at k
        by_cases e : x = y
        · subst e
          rw [if_neg (u8_irr x), if_neg (u8_irr x)] at h
          rw [if_pos rfl]
          by_cases f : x = z
          · subst f
            rw [if_neg (u8_irr x), if_neg (u8_irr x)] at k
            rw [if_pos rfl, if_pos rfl, ih b c h k]; omega
          · rw [if_neg f, if_neg f]; omega
        · have l1 : x < y := by
            by_cases q : x < y
            · exact q
            · exact absurd (u8_eq q h1) e
          rw [if_neg e]
          by_cases f : x = z
          · subst f
            exact absurd l1 k1
          · rw [if_neg f]; omega
theorem comAll_three (a b c : List UInt8) (h : cmpB a b ≤ 0) (k : cmpB b c ≤ 0) : comAll [a, b, c] = com a c := by
  have e := com_three a b c h k
  have l := com_le a b
  show min (min a.length (com a b)) (com a c) = com a c
  omega

/-! ### steps of a loop over places -/
theorem cmpB_step (a b : List UInt8) (k : Nat) (ha : k < a.length) (hb : k < b.length) : cmpB (a.drop k) (b.drop k) = if a[k] < b[k] then -1 else if b[k] < a[k] then 1 else cmpB (a.drop (k + 1)) (b.drop (k + 1)) := by
  rw [List.drop_eq_getElem_cons ha, List.drop_eq_getElem_cons hb, cmpB_cons]
theorem cmpB_end (a b : List UInt8) (k : Nat) (h : k = a.length ∨ k = b.length) (ha : k ≤ a.length) (hb : k ≤ b.length) : cmpB (a.drop k) (b.drop k) = if a.length < b.length then -1 else if b.length < a.length then 1 else 0 := by
  rcases h with h | h
  · rw [List.drop_of_length_le (Nat.le_of_eq h.symm), cmpB_nil]
    by_cases e : b.length = k
    · rw [if_pos (List.drop_of_length_le (Nat.le_of_eq e)), if_neg (by omega), if_neg (by omega)]
    · rw [if_neg (by rw [List.drop_eq_nil_iff]; omega), if_pos (by omega)]
  · rw [List.drop_of_length_le (l := b) (Nat.le_of_eq h.symm), cmpB_nil']
    by_cases e : a.length = k
    · rw [if_pos (List.drop_of_length_le (Nat.le_of_eq e)), if_neg (by omega), if_neg (by omega)]
    · rw [if_neg (by rw [List.drop_eq_nil_iff]; omega), if_neg (by omega), if_pos (by omega)]
theorem com_step (a b : List UInt8) (k : Nat) (ha : k < a.length) (hb : k < b.length) : k + com (a.drop k) (b.drop k) = if a[k] = b[k] then (k + 1) + com (a.drop (k + 1)) (b.drop (k + 1)) else k := by
  rw [List.drop_eq_getElem_cons ha, List.drop_eq_getElem_cons hb, com_cons]
  split <;> omega
theorem com_end (a b : List UInt8) (k : Nat) (h : k = a.length ∨ k = b.length) : k + com (a.drop k) (b.drop k) = k := by
  rcases h with h | h
  · rw [List.drop_of_length_le (Nat.le_of_eq h.symm), com_nil]; rfl
  · rw [List.drop_of_length_le (l := b) (Nat.le_of_eq h.symm), com_nil']; rfl
end Go.Proofs.Ytieoleiokjoccaa.Key
