/- Plain laws of numbers as bytes, the lowest first. No program in sight. -/
import Derived.WalkKit
namespace Go.Proofs.Ythboanaogfmefaa

/-- the lowest w bytes of x, the lowest first. -/
def leB : Nat → Nat → List UInt8
  | _, 0 => []
  | x, w + 1 => UInt8.ofNat (x % 256) :: leB (x / 256) w
/-- the number that bytes say, the lowest first. -/
def unle : List UInt8 → Nat
  | [] => 0
  | b :: l => b.toNat + 256 * unle l

theorem leB_length (x w : Nat) : (leB x w).length = w := by
  induction w generalizing x with
  | zero => rfl
  | succ w ih => simp [leB, ih]
theorem leB_snoc (x i : Nat) : leB x (i + 1) = leB x i ++ [UInt8.ofNat (x / 256 ^ i % 256)] := by
  induction i generalizing x with
  | zero => simp [leB]
  | succ i ih =>
    rw [leB, ih (x / 256), leB, List.cons_append, Nat.div_div_eq_div_mul, Nat.pow_succ, Nat.mul_comm (256 ^ i) 256]
theorem unle_leB (x w : Nat) : unle (leB x w) = x % 256 ^ w := by
  induction w generalizing x with
  | zero => rw [Nat.pow_zero, Nat.mod_one]; rfl
  | succ w ih =>
    have e : (UInt8.ofNat (x % 256)).toNat = x % 256 := by rw [UInt8.toNat_ofNat']; omega
    rw [leB, unle, ih, e, Nat.pow_succ, Nat.mul_comm (256 ^ w) 256, Nat.mod_mul]
theorem unle_lt (l : List UInt8) : unle l < 256 ^ l.length := by
  induction l with
  | nil => simp [unle]
  | cons b l ih =>
    have := b.toNat_lt
    rw [unle, List.length_cons, Nat.pow_succ]
    omega
theorem leB_unle (l : List UInt8) : leB (unle l) l.length = l := by
  induction l with
  | nil => rfl
  | cons b l ih =>
    have hb := b.toNat_lt
    rw [List.length_cons, leB, unle]
    have h1 : (b.toNat + 256 * unle l) % 256 = b.toNat := by omega
    have h2 : (b.toNat + 256 * unle l) / 256 = unle l := by omega
    rw [h1, h2, ih]
    congr 1
    exact UInt8.toNat_inj.1 (by rw [UInt8.toNat_ofNat']; omega)
theorem leB_mod (x w k : Nat) (h : w ≤ k) : leB (x % 256 ^ k) w = leB x w := by
  induction w generalizing x k with
  | zero => rfl
  | succ w ih =>
    obtain ⟨k, rfl⟩ : ∃ j, k = j + 1 := ⟨k - 1, by omega⟩
    have e : 256 ^ (k + 1) = 256 * 256 ^ k := by rw [Nat.pow_succ, Nat.mul_comm]
    rw [leB, leB, e, Nat.mod_mul_right_mod, Nat.mod_mul_right_div_self, ih _ _ (by omega)]
theorem leB_inj (x y w : Nat) (hx : x < 256 ^ w) (hy : y < 256 ^ w) (h : leB x w = leB y w) : x = y := by
  have := congrArg unle h
  rwa [unle_leB, unle_leB, Nat.mod_eq_of_lt hx, Nat.mod_eq_of_lt hy] at this
theorem unle_append (a b : List UInt8) : unle (a ++ b) = unle a + 256 ^ a.length * unle b := by
  induction a with
  | nil => simp [unle]
  | cons x a ih => rw [List.cons_append, unle, unle, ih, List.length_cons, Nat.pow_succ, Nat.mul_comm (256 ^ a.length) 256, Nat.mul_add, Nat.mul_assoc]; omega
theorem unle_take_succ (l : List UInt8) (k : Nat) (h : k < l.length) : unle (l.take (k + 1)) = unle (l.take k) + 256 ^ k * l[k].toNat := by
  rw [← List.take_append_getElem h, unle_append, List.length_take, Nat.min_eq_left (Nat.le_of_lt h)]
  simp [unle]
theorem unle_drop (l : List UInt8) (k : Nat) (h : k < l.length) : unle (l.drop k) = l[k].toNat + 256 * unle (l.drop (k + 1)) := by
  rw [List.drop_eq_getElem_cons h, unle]
end Go.Proofs.Ythboanaogfmefaa
