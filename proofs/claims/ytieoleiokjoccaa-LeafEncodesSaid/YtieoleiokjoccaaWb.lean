/- Laws for make with room, and the contract of wire.grown. -/
import Derived.Test.YtieoleiokjoccaaB
import Derived.Test.YtieoleiokjoccaaWa
namespace Go.Proofs.Ytieoleiokjoccaa
open Go.RowKit

section
variable {w : World} {ops : Array Oper} {rest : List Oper} {o : Oper} {a : Act} {Q : Exit → Act → World → Prop}
theorem wpB_room (hg : o.guard = none) (l c : Operand) (hop : o.op = Op.makeSlice 34 l c) (kl kc : IntKind) (L C : Int) (n m : Nat) (hl : a.eval l = .int kl L) (hc : a.eval c = .int kc C) (hL : L = (n : Int)) (hC : C = (m : Int)) (hnm : n ≤ m) (hn : m ≤ 140737488355328)
    (h : ∀ g w', w.heap.size ≤ g → OB w' g n m (zeros n) → w.grownBy w' none → wpList Try.prog ops Q rest (a.put o.dst (.slice (some ⟨g, 0, none⟩) n m)) w') : wpList Try.prog ops Q (o :: rest) a w := by
  obtain ⟨i0, hi, hz0, hz1, hz2⟩ := info_parts info_u8
  subst hL hC
  have hr := run_make (P := Try.prog) w 34 5 i0 (.int .u8 0) Try.underlying34 hi hz0 kl kc n m (by omega) (by omega) (by rw [hz2]; omega) (by omega)
  refine wpList_plain hg fun K hK' => ?_
  unfold Oper.wp
  simp only [Int.toNat_natCast] at hr
  simp [execOp, hop, hl, hc, hr, Result.andThen]
  refine hK' _ _ (h _ _ (Nat.le_refl _) ?_ (World.grownBy_alloc w _ none))
  rw [hz1, Nat.mul_one]
  have e : (madeCells (Value.cells (.int .u8 0)) m).toList = u8s (zeros m) := by
    have := toList_madeCells_one (.int .u8 0) m
    unfold zeros
    rw [u8s_zeros]
    exact this
  refine OC.mk (by rw [u8s_length, zeros_length, Nat.mul_one]) _ (heap_alloc_new w _) hnm (by rw [maxLen_is]; omega) (by rw [Nat.mul_one, ← Array.length_toList, e, u8s_length, zeros_length]) ?_
  rw [e, Nat.mul_one, u8s_take]
  unfold zeros
  rw [List.take_replicate, Nat.min_eq_left hnm]
end

set_option maxHeartbeats 400000 in
theorem grown_calls (A : Option Addr) (n c m : Nat) (xs : List UInt8) (w : World) (hx : RB w A n c xs) (hb : n + m ≤ 140737488355328) :
    Calls Try.prog 56 #[.slice A n c, .int .i64 (m : Int)] w fun e w' => ∃ g, e = .returned (.slice (some ⟨g, 0, none⟩) n (n + m)) ∧ w.heap.size ≤ g ∧ OB w' g n (n + m) xs ∧ Below w.heap.size w w' := by
  have HL := hideIt hx.len
  go_enter Try.func56, Try.ntmps56
  go_wp2_with (first
    | (at_make; refine wpB_room rfl _ _ rfl _ _ _ _ n (n + m) rfl rfl rfl (by omega) (by omega) (by omega) ?_; intro g1 w1 s1 o1 k1; have b1 := below_of_grown k1 (Nat.le_refl _) (by simp); have h1 := hx.below b1; have z1 := k1.size; have l1 := o1.lt)
    | (with_reducible refine wpB_copy rfl (.tmp 13) (.tmp 14) rfl _ _ _ rfl _ _ _ rfl _ _ _ 0 _ _ o1 h1 n (Nat.min_self n).symm (fun _ => rfl) (by omega) ?_; intro w2 o2 k2))
  go_ret
  have e : (zeros n).take 0 ++ (xs.take n ++ (zeros n).drop (0 + n)) = xs := by
    rw [List.take_zero, List.nil_append, Nat.zero_add, List.drop_of_length_le (by rw [zeros_length]; exact Nat.le_refl _), List.append_nil, List.take_of_length_le (by rw [HL.out]; exact Nat.le_refl _)]
  rw [e] at o2
  exact ⟨g1, rfl, by omega, o2, b1.grown k2 z1 (by simp; omega)⟩
end Go.Proofs.Ytieoleiokjoccaa
/- Plain laws for the loops of wire.width and wire.Put. -/
namespace Go.Proofs.Ytieoleiokjoccaa
open Go.RowKit

/-- a number of j bytes that are all 255. -/
def ones (j : Nat) : Nat := 256 ^ j - 1
theorem ones_top1 : ones 1 = 255 := by decide
theorem ones_top2 : ones 2 = 65535 := by decide
theorem ones_top4 : ones 4 = 4294967295 := by decide
theorem ones_top8 : ones 8 = 18446744073709551615 := by decide
theorem ones_zero : (ones 0 : Int) = 0 := rfl
theorem ones_pos (j : Nat) : (0 : Int) < (ones (j + 1) : Int) := by
  have : 0 < 256 ^ j := Nat.pow_pos (by decide)
  have e : 256 ^ (j + 1) = 256 * 256 ^ j := by rw [Nat.pow_succ, Nat.mul_comm]
  unfold ones
  omega
theorem ones_div (j : Nat) : (ones (j + 1) : Int) / 256 = (ones j : Int) := by
  have : 0 < 256 ^ j := Nat.pow_pos (by decide)
  have e : 256 ^ (j + 1) = 256 * 256 ^ j := by rw [Nat.pow_succ, Nat.mul_comm]
  unfold ones
  omega
theorem ones_le (j : Nat) (h : j + 1 ≤ 8) : (ones (j + 1) : Int) ≤ 18446744073709551615 := by
  have : 256 ^ (j + 1) ≤ 256 ^ 8 := Nat.pow_le_pow_right (by decide) h
  have e : 256 ^ 8 = 18446744073709551616 := by decide
  unfold ones
  omega
structure LowByte (v : Nat) (b : UInt8) (q : Nat) : Prop where
  byte : b = UInt8.ofNat (v % 256)
  next : q = v / 256
theorem low_byte (v : Nat) : ∃ (b : UInt8) (q : Nat), (v : Int) % 256 = (b.toNat : Int) ∧ (v : Int) / 256 = (q : Int) ∧ Hid (LowByte v b q ∧ q ≤ v) := by
  refine ⟨UInt8.ofNat (v % 256), v / 256, ?_, by omega, ⟨rfl, rfl⟩, Nat.div_le_self _ _⟩
  rw [UInt8.toNat_ofNat']; omega
theorem put_step {xs ys : List UInt8} {x k v q : Nat} {b : UInt8} (h : Hid (ys = xs ++ leB x k)) (hv : Hid (v = x / 256 ^ k)) (hb : Hid (LowByte v b q ∧ q ≤ v)) : Hid (ys ++ [b] = xs ++ leB x (k + 1)) := by
  have e1 := h.out; have e2 := hv.out; have e3 := hb.out.1.byte
  subst e1 e2 e3
  unfold Hid
  rw [leB_snoc, List.append_assoc]
theorem put_next {x k v q : Nat} {b : UInt8} (hv : Hid (v = x / 256 ^ k)) (hb : Hid (LowByte v b q ∧ q ≤ v)) : Hid (q = x / 256 ^ (k + 1)) := by
  have e2 := hv.out; have e3 := hb.out.1.next
  unfold Hid
  rw [e3, e2, Nat.div_div_eq_div_mul, Nat.pow_succ]
end Go.Proofs.Ytieoleiokjoccaa
