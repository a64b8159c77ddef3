/- Words and laws for bytes of the call's own: GB (nothing yet, or a block), OZ (a block: some bytes, zeros behind them); make, append; chains of Below. -/
import Derived.Test.YtieoleiokjoccaaNb
import Derived.Test.YtieoleiokjoccaaWa
import Derived.Test.YtieoleiokjoccaaLit
namespace Go.Proofs.Ytieoleiokjoccaa
open Go.RowKit

theorem ret_bool1 {a b : Bool} (h : a = b) : Ending.returned (.bool a) = Ending.returned (.bool b) := by rw [h]
/-- slices of bytes of the call's own, or nothing. -/
def GB (w : World) (base : Nat) (A : Option Addr) (n c : Nat) (xs : List UInt8) : Prop := GC w base 5 1 A n c (u8s xs)
theorem GB.read {w : World} {base n c : Nat} {A : Option Addr} {xs : List UInt8} (h : GB w base A n c xs) : RB w A n c xs := GC.read h
theorem GB.none_ (w : World) (base : Nat) : GB w base none 0 0 [] := GC.nil _ _ _ _
theorem GB.of {w : World} {base g n c : Nat} {xs : List UInt8} (h : OB w g n c xs) (hb : base ≤ g) : GB w base (some ⟨g, 0, none⟩) n c xs := GC.of h hb
theorem GB.below {w w' : World} {base n c : Nat} {A : Option Addr} {xs : List UInt8} (h : GB w base A n c xs) (hb : Below w.heap.size w w') : GB w' base A n c xs := GC.below h hb
/-- Block g has c bytes: these, and zeros behind them. -/
def OZ (w : World) (g c : Nat) (P : List UInt8) : Prop := P.length ≤ c ∧ OB w g c c (P ++ zer (c - P.length))
theorem OZ.below {w w' : World} {g c : Nat} {P : List UInt8} (h : OZ w g c P) (hb : Below w.heap.size w w') : OZ w' g c P := ⟨h.1, h.2.below hb⟩
theorem OZ.lt {w : World} {g c : Nat} {P : List UInt8} (h : OZ w g c P) : g < w.heap.size := h.2.lt
theorem OZ.all {w : World} {g c : Nat} {P : List UInt8} (h : OZ w g c P) : OB w g c c (P ++ zer (c - P.length)) := h.2

section
variable {w : World} {ops : Array Oper} {rest : List Oper} {o : Oper} {a : Act} {Q : Exit → Act → World → Prop}
theorem wpZ_make (hg : o.guard = none) (l c : Operand) (hop : o.op = Op.makeSlice 34 l c) (kl kc : IntKind) (L C : Int) (n m : Nat) (hl : a.eval l = .int kl L) (hc : a.eval c = .int kc C) (hL : L = (n : Int)) (hC : C = (m : Int)) (hnm : n ≤ m) (hn : m ≤ 140737488355328)
    (h : ∀ g w', w.heap.size ≤ g → OZ w' g m [] → w.grownBy w' none → wpList Try.prog ops Q rest (a.put o.dst (.slice (some ⟨g, 0, none⟩) n m)) w') : wpList Try.prog ops Q (o :: rest) a w := by
  obtain ⟨i0, hi, hz0, hz1, hz2⟩ := info_parts info_u8
  subst hL hC
  have hr := run_make (P := Try.prog) w 34 5 i0 (.int .u8 0) Try.underlying34 hi hz0 kl kc n m (by omega) (by omega) (by rw [hz2]; omega) (by omega)
  refine wpList_plain hg fun K hK' => ?_
  unfold Oper.wp
  simp only [Int.toNat_natCast] at hr
  simp [execOp, hop, hl, hc, hr, Result.andThen]
  refine hK' _ _ (h _ _ (Nat.le_refl _) ⟨Nat.zero_le _, ?_⟩ (World.grownBy_alloc w _ none))
  rw [hz1, Nat.mul_one]
  have e : (madeCells (Value.cells (.int .u8 0)) m).toList = u8s ([] ++ zer (m - 0)) := by
    have := toList_madeCells_one (.int .u8 0) m
    rw [List.nil_append, Nat.sub_zero]
    unfold zer
    rw [u8s_zeros]
    exact this
  refine OC.mk (by rw [u8s_length, List.nil_append, List.length_nil, Nat.sub_zero, zer_length, Nat.mul_one]) _ (heap_alloc_new w _) (Nat.le_refl _) (by rw [maxLen_is]; omega) (by rw [Nat.mul_one, ← Array.length_toList, e, u8s_length, List.nil_append, Nat.sub_zero, zer_length]) ?_
  rw [e, Nat.mul_one]
  exact List.take_of_length_le (by rw [u8s_length, List.nil_append, zer_length]; exact Nat.sub_le _ _)

theorem wpZ_app (hgd : o.guard = none) (s x : Operand) (ho : o.op = .call { callee := .builtin .append, args := #[s, x], argTypes := #[34, 34] })
    (g n c : Nat) (P : List UInt8) (hs : a.eval s = .slice (some ⟨g, 0, none⟩) n c) (hown : OZ w g c P) (hP : P.length = n)
    (A : Option Addr) (m k : Nat) (ys : List UInt8) (hx : a.eval x = .slice A m k) (hr : RB w A m k ys) (hm : 0 < m) (l : Nat) (hl : n + m = l) (hfit : l ≤ c)
    (h : ∀ w', OZ w' g c (P ++ ys) → w.grownBy w' (some g) → wpList Try.prog ops Q rest (a.put o.dst (.slice (some ⟨g, 0, none⟩) l c)) w') :
    wpList Try.prog ops Q (o :: rest) a w := by
  have hy := hr.len
  refine wpW_app hgd s x ho g n c _ hs hown.2 A m k ys hx hr hm l hl hfit fun w' h1 h2 => h w' ⟨by rw [List.length_append]; omega, ?_⟩ h2
  have e : (P ++ zer (c - P.length)).take n ++ (ys ++ (P ++ zer (c - P.length)).drop l) = (P ++ ys) ++ zer (c - (P ++ ys).length) := by
    rw [List.take_left' hP, show l = P.length + m by omega, ← List.drop_drop, List.drop_left, List.append_assoc]
    congr 2
    unfold zer
    rw [List.drop_replicate, List.length_append]
    congr 1
    omega
  rw [← e]; exact h1
end

theorem u32_of (x : Nat) (h : x < 256 ^ 4) : IntKind.u32.wrap (x : Int) = (x : Int) := by
  rw [show 256 ^ 4 = 4294967296 from rfl] at h
  rw [IntKind.wrap_u32]; omega
theorem u16_of (x : Nat) (h : x < 256 ^ 2) : IntKind.u16.wrap (x : Int) = (x : Int) := by
  rw [show 256 ^ 2 = 65536 from rfl] at h
  rw [IntKind.wrap_u16]; omega
theorem u8_one (w : World) (k : UInt8) : RB (w.alloc (.cells #[.int .u8 (k.toNat : Int)] 5)) (some ⟨w.heap.size, 0, none⟩) 1 1 [k] := lit_read w [k] 1 _ _ rfl (by omega)
theorem blw_step {w0 w w' : World} (b : Below w0.heap.size w0 w) (k : Below w.heap.size w w') : Below w0.heap.size w0 w' := b.trans (k.mono b.size)
theorem blw_own {B g : Nat} {w0 w w' : World} (b : Below B w0 w) (k : w.grownBy w' (some g)) (hB : B ≤ w.heap.size) (hg : B ≤ g) : Below B w0 w' := b.trans (below_of_grown k hB (by intro j hj; cases hj; exact hg))

theorem wpBG_app {w : World} {ops : Array Oper} {rest : List Oper} {o : Oper} {a : Act} {Q : Exit → Act → World → Prop} (hgd : o.guard = none) (s x : Operand) (ho : o.op = .call { callee := .builtin .append, args := #[s, x], argTypes := #[34, 34] })
    (base : Nat) (A : Option Addr) (n c : Nat) (xs : List UInt8) (hs : a.eval s = .slice A n c) (hown : GB w base A n c xs)
    (B : Option Addr) (m k : Nat) (ys : List UInt8) (hx : a.eval x = .slice B m k) (hr : RB w B m k ys) (hm : 0 < m) (hb : n + m ≤ 140737488355328) (hbase : base ≤ w.heap.size)
    (h : ∀ g' c' w', base ≤ g' → OB w' g' (n + m) c' (xs ++ ys) → w.grownBy w' (A.map (·.block)) → wpList Try.prog ops Q rest (a.put o.dst (.slice (some ⟨g', 0, none⟩) (n + m) c')) w') :
    wpList Try.prog ops Q (o :: rest) a w := by
  obtain ⟨i0, hi, hz0, hz1, hz2⟩ := info_parts info_u8
  obtain ⟨ad, rfl, -⟩ := RC.drop0 hr hm
  refine wpG_app hgd s x 34 ho base 5 i0 (.int .u8 0) 1 1 Try.underlying34 hi hz0 hz1 hz2 rfl (by decide) A n c (u8s xs) hs hown ad m k (u8s ys) hx hr (u8s_one ys) hm (by omega) (by rw [maxLen_is]; omega) hbase ?_
  intro g' c' w' h1 h2 h3
  rw [← u8s_append] at h2
  exact h g' c' w' h1 h2 h3
theorem copy_all (n : Nat) (D : List UInt8) (h : D.length = n) : (zeros n).take 0 ++ (D.take n ++ (zeros n).drop (0 + n)) = D := by
  rw [List.take_zero, List.nil_append, Nat.zero_add, List.drop_of_length_le (by rw [zeros_length]; exact Nat.le_refl _), List.append_nil, List.take_of_length_le (by omega)]
theorem GB.full {w : World} {base n c k : Nat} {A : Option Addr} {xs : List UInt8} (h : GB w base A n c xs) (hl : xs.length = k) (hk : 0 < k) : n = k ∧ ∃ g, A = some ⟨g, 0, none⟩ ∧ base ≤ g ∧ OB w g k c xs := by
  have hn : n = k := by rw [← hl]; exact h.read.len.symm
  subst hn
  rcases GC.oc h with ⟨rfl, h0, _⟩ | ⟨g, rfl, hb, o⟩
  · omega
  · exact ⟨rfl, g, rfl, hb, o⟩
end Go.Proofs.Ytieoleiokjoccaa
