/- Shifts by whole bytes; append of bytes onto a row of bytes that grows. -/
import Derived.Test.YthahedpkefojdaaWc
import Derived.Test.YthahedpkefojdaaNd
namespace Go.Proofs.Ythahedpkefojdaa
open Go.RowKit

theorem shift_bytes (x k : Nat) : (x : Int) / (2 : Int) ^ (8 * k) = ((x / 256 ^ k : Nat) : Int) := by
  have e : (2 : Nat) ^ (8 * k) = 256 ^ k := by rw [Nat.pow_mul]
  rw [← e, Int.natCast_ediv, Int.natCast_pow]
  rfl
theorem wpBG_app {w : World} {ops : Array Oper} {rest : List Oper} {o : Oper} {a : Act} {Q : Exit → Act → World → Prop} (hgd : o.guard = none) (s x : Operand) (ho : o.op = .call { callee := .builtin .append, args := #[s, x], argTypes := #[22, 22] })
    (base : Nat) (A : Option Addr) (n c : Nat) (xs : List UInt8) (hs : a.eval s = .slice A n c) (hown : GB w base A n c xs)
    (B : Option Addr) (m k : Nat) (ys : List UInt8) (hx : a.eval x = .slice B m k) (hr : RB w B m k ys) (hm : 0 < m) (hb : n + m ≤ 140737488355328) (hbase : base ≤ w.heap.size)
    (h : ∀ g' c' w', base ≤ g' → OB w' g' (n + m) c' (xs ++ ys) → w.grownBy w' (A.map (·.block)) → wpList Try.prog ops Q rest (a.put o.dst (.slice (some ⟨g', 0, none⟩) (n + m) c')) w') :
    wpList Try.prog ops Q (o :: rest) a w := by
  obtain ⟨i0, hi, hz0, hz1, hz2⟩ := info_parts info_u8
  obtain ⟨ad, rfl, -⟩ := RC.drop0 hr hm
  refine wpG_app hgd s x 22 ho base 5 i0 (.int .u8 0) 1 1 Try.underlying22 hi hz0 hz1 hz2 rfl (by decide) A n c (u8s xs) hs hown ad m k (u8s ys) hx hr (u8s_one ys) hm (by omega) (by rw [maxLen_is]; omega) hbase ?_
  intro g' c' w' h1 h2 h3
  rw [← u8s_append] at h2
  exact h g' c' w' h1 h2 h3
end Go.Proofs.Ythahedpkefojdaa
