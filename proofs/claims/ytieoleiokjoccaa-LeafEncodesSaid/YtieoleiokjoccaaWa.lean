/- Plain laws of numbers as bytes, the lowest first. No program in sight. -/
import Derived.WalkKit
import Derived.Test.YtieoleiokjoccaaV
namespace Go.Proofs.Ytieoleiokjoccaa

/-- the lowest w bytes of x, the lowest first. -/
def leB : Nat → Nat → List UInt8
  | _, 0 => []
  | x, w + 1 => UInt8.ofNat (x % 256) :: leB (x / 256) w
/-- the number that bytes say, the lowest first. -/
def unle : List UInt8 → Nat
  | [] => 0
  | b :: l => b.toNat + 256 * unle l

theorem leB_length (x w : Nat) : (leB x w).length = w := by
  induction w generalizing x with
  | zero => rfl
  | succ w ih => simp [leB, ih]
theorem leB_snoc (x i : Nat) : leB x (i + 1) = leB x i ++ [UInt8.ofNat (x / 256 ^ i % 256)] := by
  induction i generalizing x with
  | zero => simp [leB]
  | succ i ih =>
    rw [leB, ih (x / 256), leB, List.cons_append, Nat.div_div_eq_div_mul, Nat.pow_succ, Nat.mul_comm (256 ^ i) 256]
theorem unle_leB (x w : Nat) : unle (leB x w) = x % 256 ^ w := by
  induction w generalizing x with
  | zero => rw [Nat.pow_zero, Nat.mod_one]; rfl
  | succ w ih =>
    have e : (UInt8.ofNat (x % 256)).toNat = x % 256 := by rw [UInt8.toNat_ofNat']; omega
    rw [leB, unle, ih, e, Nat.pow_succ, Nat.mul_comm (256 ^ w) 256, Nat.mod_mul]
theorem unle_lt (l : List UInt8) : unle l < 256 ^ l.length := by
  induction l with
  | nil => simp [unle]
  | cons b l ih =>
    have := b.toNat_lt
    rw [unle, List.length_cons, Nat.pow_succ]
    omega
theorem leB_unle (l : List UInt8) : leB (unle l) l.length = l := by
  induction l with
  | nil => rfl
  | cons b l ih =>
    have hb := b.toNat_lt
    rw [List.length_cons, leB, unle]
    have h1 : (b.toNat + 256 * unle l) % 256 = b.toNat := by omega
    have h2 : (b.toNat + 256 * unle l) / 256 = unle l := by omega
    rw [h1, h2, ih]
    congr 1
    exact UInt8.toNat_inj.1 (by rw [UInt8.toNat_ofNat']; omega)
theorem leB_mod (x w k : Nat) (h : w ≤ k) : leB (x % 256 ^ k) w = leB x w := by
  induction w generalizing x k with
  | zero => rfl
  | succ w ih =>
    obtain ⟨k, rfl⟩ : ∃ j, k = j + 1 := ⟨k - 1, by omega⟩
    have e : 256 ^ (k + 1) = 256 * 256 ^ k := by rw [Nat.pow_succ, Nat.mul_comm]
    rw [leB, leB, e, Nat.mod_mul_right_mod, Nat.mod_mul_right_div_self, ih _ _ (by omega)]
theorem leB_inj (x y w : Nat) (hx : x < 256 ^ w) (hy : y < 256 ^ w) (h : leB x w = leB y w) : x = y := by
  have := congrArg unle h
  rwa [unle_leB, unle_leB, Nat.mod_eq_of_lt hx, Nat.mod_eq_of_lt hy] at this
theorem unle_append (a b : List UInt8) : unle (a ++ b) = unle a + 256 ^ a.length * unle b := by
  induction a with
  | nil => simp [unle]
  | cons x a ih => rw [List.cons_append, unle, unle, ih, List.length_cons, Nat.pow_succ, Nat.mul_comm (256 ^ a.length) 256, Nat.mul_add, Nat.mul_assoc]; omega
theorem unle_take_succ (l : List UInt8) (k : Nat) (h : k < l.length) : unle (l.take (k + 1)) = unle (l.take k) + 256 ^ k * l[k].toNat := by
  rw [← List.take_append_getElem h, unle_append, List.length_take, Nat.min_eq_left (Nat.le_of_lt h)]
  simp [unle]
theorem unle_drop (l : List UInt8) (k : Nat) (h : k < l.length) : unle (l.drop k) = l[k].toNat + 256 * unle (l.drop (k + 1)) := by
  rw [List.drop_eq_getElem_cons h, unle]
end Go.Proofs.Ytieoleiokjoccaa
/- Zeros. -/
namespace Go.Proofs.Ytieoleiokjoccaa

def zer (n : Nat) : List UInt8 := List.replicate n 0
theorem zer_length (n : Nat) : (zer n).length = n := by simp [zer]
theorem all_zer (n : Nat) : (zer n).all (· == 0) = true := by simp [zer]
theorem zer_of_all (L : List UInt8) (h : L.all (· == 0) = true) : L = zer L.length := by
  unfold zer
  refine List.eq_replicate_iff.2 ⟨rfl, fun x hx => ?_⟩
  have := List.all_eq_true.1 h x hx
  simpa using this
end Go.Proofs.Ytieoleiokjoccaa
/- Shifts by whole bytes. -/
namespace Go.Proofs.Ytieoleiokjoccaa

theorem shift_bytes (x k : Nat) : (x : Int) / (2 : Int) ^ (8 * k) = ((x / 256 ^ k : Nat) : Int) := by
  have e : (2 : Nat) ^ (8 * k) = 256 ^ k := by rw [Nat.pow_mul]
  rw [← e, Int.natCast_ediv, Int.natCast_pow]
  rfl
end Go.Proofs.Ytieoleiokjoccaa
/- Plain laws of the least form of a number. No program in sight. -/
namespace Go.Proofs.Ytieoleiokjoccaa
open Go.RowKit

/-- The least form of x, in at most k + 1 bytes. -/
def vF : Nat → Nat → List UInt8
  | 0, x => [UInt8.ofNat x]
  | k + 1, x => if x < 128 then [UInt8.ofNat x] else UInt8.ofNat (x % 128 + 128) :: vF k (x / 128)
/-- The number that groups of seven bits say, the lowest first. -/
def un7 : List UInt8 → Nat
  | [] => 0
  | b :: l => b.toNat % 128 + 128 * un7 l
theorem vF_small (k x : Nat) (h : x < 128) : vF k x = [UInt8.ofNat x] := by
  cases k with
  | zero => rfl
  | succ k => rw [vF, if_pos h]
theorem vF_big (k x : Nat) (h : 128 ≤ x) : vF (k + 1) x = UInt8.ofNat (x % 128 + 128) :: vF k (x / 128) := by rw [vF, if_neg (by omega)]
theorem vF_length (k x : Nat) : 1 ≤ (vF k x).length ∧ (vF k x).length ≤ k + 1 := by
  induction k generalizing x with
  | zero => simp [vF]
  | succ k ih =>
    have := ih (x / 128)
    rw [vF]
    split
    · simp
    · rw [List.length_cons]; omega

/-- How many bytes at the head are 128 or more, up to k. -/
def lead : Nat → List UInt8 → Nat
  | 0, _ => 0
  | _ + 1, [] => 0
  | k + 1, b :: l => if 128 ≤ b.toNat then lead k l + 1 else 0
theorem lead_le (k : Nat) (l : List UInt8) : lead k l ≤ k ∧ lead k l ≤ l.length := by
  induction k generalizing l with
  | zero => exact ⟨Nat.le_refl _, Nat.zero_le _⟩
  | succ k ih =>
    cases l with
    | nil => exact ⟨Nat.zero_le _, Nat.le_refl _⟩
    | cons b l =>
      have := ih l
      rw [lead]
      split
      · rw [List.length_cons]; omega
      · omega
theorem lead_big (k : Nat) (l : List UInt8) (i : Nat) (h : i < lead k l) : ∃ b, l[i]? = some b ∧ 128 ≤ b.toNat := by
  induction k generalizing l i with
  | zero => rw [lead] at h; omega
  | succ k ih =>
    cases l with
    | nil => rw [lead] at h; omega
    | cons b l =>
      rw [lead] at h
      split at h
      · rename_i hb
        cases i with
        | zero => exact ⟨b, rfl, hb⟩
        | succ i =>
          obtain ⟨c, hc, h1⟩ := ih l i (by omega)
          exact ⟨c, by rw [List.getElem?_cons_succ]; exact hc, h1⟩
      · omega
theorem lead_stop (k : Nat) (l : List UInt8) (h : lead k l < k) (b : UInt8) (hb : l[lead k l]? = some b) : b.toNat < 128 := by
  induction k generalizing l with
  | zero => omega
  | succ k ih =>
    cases l with
    | nil => simp at hb
    | cons c l =>
      rw [lead] at h hb
      split at h
      · rename_i hc
        rw [if_pos hc, List.getElem?_cons_succ] at hb
        exact ih l (by omega) hb
      · rename_i hc
        rw [if_neg hc] at hb
        simp at hb
        subst hb
        omega
/-- What V answers of the bytes that are left: the number, how far it goes, the error. -/
def vOut (L : List UInt8) : Nat × Nat × Int :=
  if lead 10 L = 10 then (0, 0, 12)
  else if lead 10 L = L.length then (0, 0, 10)
  else if lead 10 L = 9 ∧ 1 < (L.getD 9 0).toNat then (0, 0, 12)
  else if 0 < lead 10 L ∧ L.getD (lead 10 L) 0 = 0 then (0, 0, 11)
  else (un7 (L.take (lead 10 L + 1)), lead 10 L + 1, 0)

theorem un7_lt (l : List UInt8) : un7 l < 128 ^ l.length := by
  induction l with
  | nil => simp [un7]
  | cons b l ih => rw [un7, List.length_cons, Nat.pow_succ]; omega
theorem un7_append (a b : List UInt8) : un7 (a ++ b) = un7 a + 128 ^ a.length * un7 b := by
  induction a with
  | nil => simp [un7]
  | cons x a ih => rw [List.cons_append, un7, un7, ih, List.length_cons, Nat.pow_succ, Nat.mul_comm (128 ^ a.length) 128, Nat.mul_add, Nat.mul_assoc]; omega
theorem un7_take_succ (l : List UInt8) (k : Nat) (h : k < l.length) : un7 (l.take (k + 1)) = un7 (l.take k) + 128 ^ k * (l[k].toNat % 128) := by
  rw [← List.take_append_getElem h, un7_append, List.length_take, Nat.min_eq_left (Nat.le_of_lt h)]
  simp [un7]
theorem un7_drop (l : List UInt8) (k : Nat) (h : k < l.length) : un7 (l.drop k) = l[k].toNat % 128 + 128 * un7 (l.drop (k + 1)) := by
  rw [List.drop_eq_getElem_cons h, un7]

theorem byte_ofNat {x : Nat} (h : x < 256) : (UInt8.ofNat x).toNat = x := by rw [UInt8.toNat_ofNat']; omega
/-- What stands at the head of a least form. -/
theorem vF_lead (k x : Nat) (h : x < 2 * 128 ^ k) (j : Nat) (hj : k < j) (rest : List UInt8) :
    lead j (vF k x ++ rest) = (vF k x).length - 1 ∧ un7 (vF k x) = x ∧ (∀ b, (vF k x ++ rest)[(vF k x).length - 1]? = some b → b.toNat < 128 ∧ (0 < (vF k x).length - 1 → b ≠ 0) ∧ ((vF k x).length - 1 = k → b.toNat < 2)) := by
  induction k generalizing x j with
  | zero =>
    obtain ⟨j, rfl⟩ : ∃ i, j = i + 1 := ⟨j - 1, by omega⟩
    have hb : (UInt8.ofNat x).toNat = x := byte_ofNat (by omega)
    refine ⟨?_, ?_, ?_⟩
    · show lead (j + 1) (UInt8.ofNat x :: rest) = 0
      rw [lead, if_neg (by rw [hb]; omega)]
    · show (UInt8.ofNat x).toNat % 128 + 128 * 0 = x
      rw [hb]; omega
    · intro b e
      have : UInt8.ofNat x = b := by simpa [vF] using e
      subst this
      rw [hb]
      exact ⟨by omega, fun q => absurd q (by simp [vF]), fun _ => by omega⟩
  | succ k ih =>
    obtain ⟨j, rfl⟩ : ∃ i, j = i + 1 := ⟨j - 1, by omega⟩
    by_cases hx : x < 128
    · have hb : (UInt8.ofNat x).toNat = x := byte_ofNat (by omega)
      rw [vF_small _ _ hx]
      refine ⟨?_, ?_, ?_⟩
      · show lead (j + 1) (UInt8.ofNat x :: rest) = 0
        rw [lead, if_neg (by rw [hb]; omega)]
      · show (UInt8.ofNat x).toNat % 128 + 128 * 0 = x
        rw [hb]; omega
      · intro b e
        have : UInt8.ofNat x = b := by simpa using e
        subst this
        rw [hb]
        exact ⟨by omega, fun q => absurd q (by simp), fun q => absurd q (by simp)⟩
    · rw [vF_big _ _ (by omega)]
      have hb : (UInt8.ofNat (x % 128 + 128)).toNat = x % 128 + 128 := byte_ofNat (by omega)
      have hp : 2 * 128 ^ (k + 1) = 128 * (2 * 128 ^ k) := by rw [Nat.pow_succ]; omega
      obtain ⟨i1, i2, i3⟩ := ih (x / 128) (by omega) j (by omega)
      have hl := vF_length k (x / 128)
      refine ⟨?_, ?_, ?_⟩
      · rw [List.cons_append, lead, if_pos (by rw [hb]; omega), i1, List.length_cons]
        omega
      · rw [un7, i2, hb]; omega
      · intro b e
        have e2 : (vF k (x / 128) ++ rest)[(vF k (x / 128)).length - 1]? = some b := by
          rw [List.cons_append, List.length_cons, show (vF k (x / 128)).length + 1 - 1 = ((vF k (x / 128)).length - 1) + 1 by omega, List.getElem?_cons_succ] at e
          exact e
        obtain ⟨k1, k2, k3⟩ := i3 b e2
        refine ⟨k1, fun _ => ?_, fun q => k3 (by rw [List.length_cons] at q; omega)⟩
        by_cases h0 : 0 < (vF k (x / 128)).length - 1
        · exact k2 h0
        · -- the form of x / 128 is one byte, and that is not zero
          intro hz
          have h1 : (vF k (x / 128)).length = 1 := by omega
          have h2 : vF k (x / 128) = [b] := by
            match hv : vF k (x / 128), h1 with
            | [c], _ =>
              rw [hv] at e2
              simp at e2
              rw [e2]
          rw [h2, hz] at i2
          simp [un7] at i2
          omega
theorem lt64 {x : Nat} (h : x < 18446744073709551616) : x < 2 * 128 ^ 9 := by
  have : 2 * 128 ^ 9 = 18446744073709551616 := by decide
  omega
/-- A least form is read back. -/
theorem vOut_form (x : Nat) (h : x < 18446744073709551616) (rest : List UInt8) : vOut (vF 9 x ++ rest) = (x, (vF 9 x).length, 0) := by
  obtain ⟨h1, h2, h3⟩ := vF_lead 9 x (lt64 h) 10 (by omega) rest
  have hl := vF_length 9 x
  have hb : ∃ b, (vF 9 x ++ rest)[(vF 9 x).length - 1]? = some b := ⟨_, List.getElem?_eq_getElem (by rw [List.length_append]; omega)⟩
  obtain ⟨b, hb⟩ := hb
  obtain ⟨k1, k2, k3⟩ := h3 b hb
  have hd : (vF 9 x ++ rest).getD ((vF 9 x).length - 1) 0 = b := by rw [List.getD_eq_getElem?_getD, hb]; rfl
  unfold vOut
  rw [h1]
  rw [if_neg (by omega), if_neg (by rw [List.length_append]; omega)]
  rw [if_neg (by
    rintro ⟨q1, q2⟩
    have := k3 q1
    have hd' := hd
    rw [q1] at hd'
    rw [hd'] at q2
    omega)]
  rw [if_neg (by
    rintro ⟨q1, q2⟩
    rw [hd] at q2
    exact k2 q1 q2)]
  have e1 : (vF 9 x).length - 1 + 1 = (vF 9 x).length := by omega
  rw [e1, List.take_left, h2]

/-- Bytes that pass are the least form of their number. -/
theorem form_of (k : Nat) : ∀ (L : List UInt8) (n : Nat), L.length = n + 1 → n ≤ k → (∀ i b, i < n → L[i]? = some b → 128 ≤ b.toNat) → (∀ b, L[n]? = some b → b.toNat < 128 ∧ (0 < n → b ≠ 0)) → vF k (un7 L) = L := by
  induction k with
  | zero =>
    intro L n hl hn _ hs
    obtain rfl : n = 0 := by omega
    match L, hl with
    | [b], _ =>
      have := (hs b rfl).1
      show [UInt8.ofNat (b.toNat % 128 + 128 * 0)] = [b]
      congr 1
      exact UInt8.toNat_inj.1 (by rw [UInt8.toNat_ofNat']; omega)
  | succ k ih =>
    intro L n hl hn hbig hs
    cases n with
    | zero =>
      match L, hl with
      | [b], _ =>
        have h1 := (hs b rfl).1
        have e : un7 [b] = b.toNat := by show b.toNat % 128 + 128 * 0 = _; omega
        rw [e, vF_small _ _ h1]
        congr 1
        exact UInt8.toNat_inj.1 (by rw [UInt8.toNat_ofNat']; omega)
    | succ n =>
      match L, hl with
      | b :: L, hl =>
        have hl' : L.length = n + 1 := by simpa using hl
        have hb := hbig 0 b (by omega) rfl
        have hb2 := b.toNat_lt
        have hrec := ih L n hl' (by omega) (fun i c hi hc => hbig (i + 1) c (by omega) (by rw [List.getElem?_cons_succ]; exact hc)) (fun c hc => ⟨(hs c (by rw [List.getElem?_cons_succ]; exact hc)).1, fun _ => (hs c (by rw [List.getElem?_cons_succ]; exact hc)).2 (by omega)⟩)
        -- the number of the rest is not zero
        have hpos : 0 < un7 L := by
          apply Nat.pos_of_ne_zero
          intro h0
          have hc : ∃ c, L[n]? = some c := ⟨_, List.getElem?_eq_getElem (by omega)⟩
          obtain ⟨c, hc⟩ := hc
          obtain ⟨s1, s2⟩ := hs c (by rw [List.getElem?_cons_succ]; exact hc)
          have hz : c = 0 := by
            have e1 : un7 L = un7 (L.take n) + 128 ^ n * (c.toNat % 128) := by
              have := un7_take_succ L n (by omega)
              rw [List.take_of_length_le (by omega)] at this
              rw [this]
              congr 3
              have := List.getElem?_eq_some_iff.1 hc
              obtain ⟨_, q⟩ := this
              rw [q]
            have e2 : 128 ^ n * (c.toNat % 128) = 0 := by omega
            have e3 : 0 < 128 ^ n := Nat.pow_pos (by decide)
            have e4 : c.toNat % 128 = 0 := by
              rcases Nat.mul_eq_zero.1 e2 with q | q
              · omega
              · exact q
            exact UInt8.toNat_inj.1 (by show c.toNat = 0; omega)
          exact s2 (by omega) hz
        rw [un7, vF_big _ _ (by omega)]
        have e1 : (b.toNat % 128 + 128 * un7 L) / 128 = un7 L := by omega
        have e2 : UInt8.ofNat ((b.toNat % 128 + 128 * un7 L) % 128 + 128) = b := UInt8.toNat_inj.1 (by rw [UInt8.toNat_ofNat']; omega)
        rw [e1, e2, hrec]
theorem vOut_cases (L : List UInt8) : (∃ e, (e = 10 ∨ e = 11 ∨ e = 12) ∧ vOut L = (0, 0, e)) ∨ (∃ x k, vOut L = (x, k, 0) ∧ 1 ≤ k ∧ k ≤ 10 ∧ k ≤ L.length ∧ x < 18446744073709551616 ∧ vF 9 x = L.take k) := by
  unfold vOut
  have hl := lead_le 10 L
  split
  · exact .inl ⟨12, by simp, rfl⟩
  · split
    · exact .inl ⟨10, by simp, rfl⟩
    · split
      · exact .inl ⟨12, by simp, rfl⟩
      · split
        · exact .inl ⟨11, by simp, rfl⟩
        · rename_i h1 h2 h3 h4
          have hlt : lead 10 L < L.length := by omega
          have htl : (L.take (lead 10 L + 1)).length = lead 10 L + 1 := by rw [List.length_take]; omega
          have hget : ∀ (i : Nat) (b : UInt8), (L.take (lead 10 L + 1))[i]? = some b → L[i]? = some b := by
            intro i b hb
            rw [List.getElem?_take] at hb
            split at hb
            · exact hb
            · cases hb
          have hstop : ∀ b, (L.take (lead 10 L + 1))[lead 10 L]? = some b → b.toNat < 128 ∧ (0 < lead 10 L → b ≠ 0) := by
            intro b hb
            have hb' := hget _ _ hb
            refine ⟨lead_stop 10 L (by omega) b hb', fun hp hz => h4 ⟨hp, ?_⟩⟩
            rw [List.getD_eq_getElem?_getD, hb', hz]; rfl
          have hf := form_of 9 (L.take (lead 10 L + 1)) (lead 10 L) htl (by omega) (fun i b hi hb => by
            obtain ⟨c, hc, h128⟩ := lead_big 10 L i hi
            have := hget _ _ hb
            rw [hc] at this
            injection this with this
            rw [← this]; exact h128) hstop
          refine .inr ⟨_, _, rfl, by omega, by omega, by omega, ?_, hf⟩
          have hu := un7_lt (L.take (lead 10 L + 1))
          rw [htl] at hu
          by_cases h9 : lead 10 L = 9
          · have hc : ∃ c, L[9]? = some c := ⟨_, List.getElem?_eq_getElem (by omega)⟩
            obtain ⟨c, hc⟩ := hc
            have hc2 : c.toNat ≤ 1 := by
              have : ¬ (1 < (L.getD 9 0).toNat) := fun q => h3 ⟨h9, q⟩
              rw [List.getD_eq_getElem?_getD, hc] at this
              simpa using this
            rw [h9]
            have e := un7_take_succ L 9 (by omega)
            have hce : L[9]'(by omega) = c := (List.getElem?_eq_some_iff.1 hc).2
            rw [hce] at e
            have hu9 := un7_lt (L.take 9)
            rw [List.length_take, Nat.min_eq_left (by omega)] at hu9
            have p9 : 128 ^ 9 = 9223372036854775808 := by decide
            rw [e, p9]
            rw [p9] at hu9
            omega
          · have : 128 ^ (lead 10 L + 1) ≤ 128 ^ 9 := Nat.pow_le_pow_right (by decide) (by omega)
            have p9 : 128 ^ 9 = 9223372036854775808 := by decide
            omega
/-- Of least forms neither begins another one. -/
theorem vF_apart (x y : Nat) (hx : x < 18446744073709551616) (hy : y < 18446744073709551616) (r : List UInt8) (h : vF 9 x = vF 9 y ++ r) : x = y := by
  have h1 := vOut_form x hx []
  have h2 := vOut_form y hy r
  rw [List.append_nil, h, h2] at h1
  exact (Prod.mk.inj h1).1.symm
end Go.Proofs.Ytieoleiokjoccaa
/- Plain laws for the loop of wire.Get. -/
namespace Go.Proofs.Ytieoleiokjoccaa
open Go.RowKit

theorem wrapu64_of (v : Nat) (h : v < 256 ^ 8) : IntKind.u64.wrap (v : Int) = (v : Int) := by
  have : 256 ^ 8 = 18446744073709551616 := by decide
  rw [IntKind.wrap_u64]; omega
theorem wrapu32_of (v : Nat) (h : v < 256 ^ 4) : IntKind.u32.wrap (v : Int) = (v : Int) := by
  have : 256 ^ 4 = 4294967296 := by decide
  rw [IntKind.wrap_u32]; omega
theorem wrapu16_of (v : Nat) (h : v < 256 ^ 2) : IntKind.u16.wrap (v : Int) = (v : Int) := by
  have : 256 ^ 2 = 65536 := by decide
  rw [IntKind.wrap_u16]; omega
theorem wrapu8_of (v : Nat) (h : v < 256 ^ 1) : IntKind.u8.wrap (v : Int) = (v : Int) := by
  have : 256 ^ 1 = 256 := by decide
  rw [IntKind.wrap_u8]; omega
theorem bits_or64 (a b : Nat) (ha : a < 256 ^ 8) (hb : b < 256 ^ 8) : bits .or .u64 (a : Int) (b : Int) = ((a ||| b : Nat) : Int) := by
  have e8 : 256 ^ 8 = 2 ^ 64 := by decide
  show IntKind.u64.wrap ((BitVec.ofInt 64 (a : Int) ||| BitVec.ofInt 64 (b : Int)).toNat : Int) = _
  have e : ∀ z : Nat, z < 256 ^ 8 → (BitVec.ofInt 64 (z : Int)).toNat = z := fun z hz => by
    rw [BitVec.toNat_ofInt]
    have : 256 ^ 8 = 18446744073709551616 := by decide
    show ((z : Int) % 18446744073709551616).toNat = z
    omega
  rw [BitVec.toNat_or, e a ha, e b hb]
  refine wrapu64_of _ ?_
  rw [e8] at *
  exact Nat.or_lt_two_pow ha hb
theorem get_step (v k : Nat) (b : UInt8) (hk : k < 8) (hv : v < 256 ^ k) :
    bits .or .u64 (v : Int) (IntKind.u64.wrap (IntKind.u64.wrap (b.toNat : Int) * 2 ^ (8 * k))) = ((v + 256 ^ k * b.toNat : Nat) : Int) ∧ v + 256 ^ k * b.toNat < 256 ^ (k + 1) := by
  have hb := b.toNat_lt
  have hp : 256 ^ (k + 1) ≤ 256 ^ 8 := Nat.pow_le_pow_right (by decide) (by omega)
  have e1 : 256 ^ (k + 1) = 256 ^ k * 256 := Nat.pow_succ ..
  have h1 : 256 ^ k * b.toNat ≤ 256 ^ k * 255 := Nat.mul_le_mul_left _ (by omega)
  have h2 : v + 256 ^ k * b.toNat < 256 ^ (k + 1) := by rw [e1]; omega
  refine ⟨?_, h2⟩
  have e2 : (2 : Nat) ^ (8 * k) = 256 ^ k := by rw [Nat.pow_mul]
  have e3 : ((b.toNat : Int)) * (2 : Int) ^ (8 * k) = ((256 ^ k * b.toNat : Nat) : Int) := by
    rw [← e2, Int.natCast_mul, Int.natCast_pow, Int.mul_comm]; rfl
  have p8 : b.toNat < 256 ^ 8 := Nat.lt_of_lt_of_le hb (by decide)
  rw [wrapu64_of _ p8, e3, wrapu64_of _ (by omega), bits_or64 _ _ (by omega) (by omega)]
  congr 1
  rw [← e2] at hv ⊢
  rw [Nat.add_comm, Nat.two_pow_add_eq_or_of_lt hv, Nat.or_comm]
theorem get_next {L : List UInt8} {k v : Nat} (h : k < L.length) (hv : Hid (v = unle (L.take k))) : Hid (v + 256 ^ k * L[k].toNat = unle (L.take (k + 1))) := by
  unfold Hid
  rw [unle_take_succ L k h, ← hv.out]
end Go.Proofs.Ytieoleiokjoccaa
/- What the calls of a reader answer, and how it stands behind them: no program in sight. -/
namespace Go.Proofs.Ytieoleiokjoccaa
open Go.RowKit

/-- Get of W bytes: the number, the place, the error. -/
def numS (B : List UInt8) (at_ : Nat) (e : Int) (W : Nat) : Nat × Nat × Int :=
  if e = 0 ∧ at_ + W ≤ B.length then (unle ((B.drop at_).take W), at_ + W, 0) else (0, at_, if e = 0 then 10 else e)
/-- Bytes(k). -/
def bytesS (B : List UInt8) (at_ : Nat) (e k : Int) : List UInt8 × Nat × Int :=
  if e = 0 ∧ 0 ≤ k ∧ k ≤ (B.length : Int) - (at_ : Int) then ((B.drop at_).take k.toNat, at_ + k.toNat, 0) else ([], at_, if e = 0 then 10 else e)
/-- V. -/
def vS (B : List UInt8) (at_ : Nat) (e : Int) : Nat × Nat × Int :=
  if e = 0 then ((vOut (B.drop at_)).1, at_ + (vOut (B.drop at_)).2.1, (vOut (B.drop at_)).2.2) else (0, at_, e)
/-- Left. -/
def leftS (B : List UInt8) (at_ : Nat) (e : Int) : Nat := if e = 0 then B.length - at_ else 0

theorem numS_lt (B : List UInt8) (at_ : Nat) (e : Int) (W : Nat) : (numS B at_ e W).1 < 256 ^ W := by
  unfold numS
  split
  · refine Nat.lt_of_lt_of_le (unle_lt _) (Nat.pow_le_pow_right (by decide) ?_)
    rw [List.length_take]; omega
  · exact Nat.pow_pos (by decide)
theorem vOut_lt (L : List UInt8) : (vOut L).1 < 18446744073709551616 := by
  rcases vOut_cases L with ⟨e, _, h⟩ | ⟨x, k, h, _, _, _, h2, _⟩
  · rw [h]; show (0 : Nat) < 18446744073709551616; decide
  · rw [h]; exact h2
theorem vS_lt (B : List UInt8) (at_ : Nat) (e : Int) : (vS B at_ e).1 < 18446744073709551616 := by
  unfold vS
  split
  · exact vOut_lt _
  · show (0 : Nat) < 18446744073709551616; decide
end Go.Proofs.Ytieoleiokjoccaa
