/- A block whose bytes are some and zeros behind them (OZ): make, append. chain: begun, EncodeData, EncodeList. -/
import Derived.Test.YthahedpkefojdaaNc
import Derived.Test.YthahedpkefojdaaWp16
import Derived.Test.YthahedpkefojdaaWp32
import Derived.Test.YthahedpkefojdaaLit
import Derived.Deep.CutRange
namespace Go.Proofs.Ythahedpkefojdaa
open Go.RowKit

/-- slices of bytes of the call's own, or nothing. -/
def GB (w : World) (base : Nat) (A : Option Addr) (n c : Nat) (xs : List UInt8) : Prop := GC w base 5 1 A n c (u8s xs)
theorem GB.read {w : World} {base n c : Nat} {A : Option Addr} {xs : List UInt8} (h : GB w base A n c xs) : RB w A n c xs := GC.read h
theorem GB.none_ (w : World) (base : Nat) : GB w base none 0 0 [] := GC.nil _ _ _ _
theorem GB.of {w : World} {base g n c : Nat} {xs : List UInt8} (h : OB w g n c xs) (hb : base ≤ g) : GB w base (some ⟨g, 0, none⟩) n c xs := GC.of h hb
theorem GB.below {w w' : World} {base n c : Nat} {A : Option Addr} {xs : List UInt8} (h : GB w base A n c xs) (hb : Below w.heap.size w w') : GB w' base A n c xs := GC.below h hb
/-- Block g has c bytes: these, and zeros behind them. -/
def OZ (w : World) (g c : Nat) (P : List UInt8) : Prop := P.length ≤ c ∧ OB w g c c (P ++ zer (c - P.length))
theorem OZ.below {w w' : World} {g c : Nat} {P : List UInt8} (h : OZ w g c P) (hb : Below w.heap.size w w') : OZ w' g c P := ⟨h.1, h.2.below hb⟩
theorem OZ.lt {w : World} {g c : Nat} {P : List UInt8} (h : OZ w g c P) : g < w.heap.size := h.2.lt
theorem OZ.all {w : World} {g c : Nat} {P : List UInt8} (h : OZ w g c P) : OB w g c c (P ++ zer (c - P.length)) := h.2

section
variable {w : World} {ops : Array Oper} {rest : List Oper} {o : Oper} {a : Act} {Q : Exit → Act → World → Prop}
theorem wpZ_make (hg : o.guard = none) (l c : Operand) (hop : o.op = Op.makeSlice 22 l c) (kl kc : IntKind) (L C : Int) (n m : Nat) (hl : a.eval l = .int kl L) (hc : a.eval c = .int kc C) (hL : L = (n : Int)) (hC : C = (m : Int)) (hnm : n ≤ m) (hn : m ≤ 140737488355328)
    (h : ∀ g w', w.heap.size ≤ g → OZ w' g m [] → w.grownBy w' none → wpList Try.prog ops Q rest (a.put o.dst (.slice (some ⟨g, 0, none⟩) n m)) w') : wpList Try.prog ops Q (o :: rest) a w := by
  obtain ⟨i0, hi, hz0, hz1, hz2⟩ := info_parts info_u8
  subst hL hC
  have hr := run_make (P := Try.prog) w 22 5 i0 (.int .u8 0) Try.underlying22 hi hz0 kl kc n m (by omega) (by omega) (by rw [hz2]; omega) (by omega)
  refine wpList_plain hg fun K hK' => ?_
  unfold Oper.wp
  simp only [Int.toNat_natCast] at hr
  simp [execOp, hop, hl, hc, hr, Result.andThen]
  refine hK' _ _ (h _ _ (Nat.le_refl _) ⟨Nat.zero_le _, ?_⟩ (World.grownBy_alloc w _ none))
  rw [hz1, Nat.mul_one]
  have e : (madeCells (Value.cells (.int .u8 0)) m).toList = u8s ([] ++ zer (m - 0)) := by
    have := toList_madeCells_one (.int .u8 0) m
    rw [List.nil_append, Nat.sub_zero]
    unfold zer
    rw [u8s_zeros]
    exact this
  refine OC.mk (by rw [u8s_length, List.nil_append, List.length_nil, Nat.sub_zero, zer_length, Nat.mul_one]) _ (heap_alloc_new w _) (Nat.le_refl _) (by rw [maxLen_is]; omega) (by rw [Nat.mul_one, ← Array.length_toList, e, u8s_length, List.nil_append, Nat.sub_zero, zer_length]) ?_
  rw [e, Nat.mul_one]
  exact List.take_of_length_le (by rw [u8s_length, List.nil_append, zer_length]; exact Nat.sub_le _ _)

theorem wpZ_app (hgd : o.guard = none) (s x : Operand) (ho : o.op = .call { callee := .builtin .append, args := #[s, x], argTypes := #[22, 22] })
    (g n c : Nat) (P : List UInt8) (hs : a.eval s = .slice (some ⟨g, 0, none⟩) n c) (hown : OZ w g c P) (hP : P.length = n)
    (A : Option Addr) (m k : Nat) (ys : List UInt8) (hx : a.eval x = .slice A m k) (hr : RB w A m k ys) (hm : 0 < m) (l : Nat) (hl : n + m = l) (hfit : l ≤ c)
    (h : ∀ w', OZ w' g c (P ++ ys) → w.grownBy w' (some g) → wpList Try.prog ops Q rest (a.put o.dst (.slice (some ⟨g, 0, none⟩) l c)) w') :
    wpList Try.prog ops Q (o :: rest) a w := by
  have hy := hr.len
  refine wpW_app hgd s x ho g n c _ hs hown.2 A m k ys hx hr hm l hl hfit fun w' h1 h2 => h w' ⟨by rw [List.length_append]; omega, ?_⟩ h2
  have e : (P ++ zer (c - P.length)).take n ++ (ys ++ (P ++ zer (c - P.length)).drop l) = (P ++ ys) ++ zer (c - (P ++ ys).length) := by
    rw [List.take_left' hP, show l = P.length + m by omega, ← List.drop_drop, List.drop_left, List.append_assoc]
    congr 2
    unfold zer
    rw [List.drop_replicate, List.length_append]
    congr 1
    omega
  rw [← e]; exact h1
end

theorem u32_of (x : Nat) (h : x < 256 ^ 4) : IntKind.u32.wrap (x : Int) = (x : Int) := by
  rw [show 256 ^ 4 = 4294967296 from rfl] at h
  rw [IntKind.wrap_u32]; omega
theorem u16_of (x : Nat) (h : x < 256 ^ 2) : IntKind.u16.wrap (x : Int) = (x : Int) := by
  rw [show 256 ^ 2 = 65536 from rfl] at h
  rw [IntKind.wrap_u16]; omega
theorem u8_one (w : World) (k : UInt8) : RB (w.alloc (.cells #[.int .u8 (k.toNat : Int)] 5)) (some ⟨w.heap.size, 0, none⟩) 1 1 [k] := lit_read w [k] 1 _ _ rfl (by omega)

set_option maxHeartbeats 4000000 in
theorem begun_calls (k : UInt8) (x n : Nat) (w : World) (hx : x < 256 ^ 4) (hn : n < 256 ^ 2) :
    Calls Try.prog 28 #[.int .u8 (k.toNat : Int), .int .i64 (x : Int), .int .i64 (n : Int)] w fun e w' => ∃ g, e = .returned (.slice (some ⟨g, 0, none⟩) 7 4092) ∧ w.heap.size ≤ g ∧ OZ w' g 4092 (hd k x n) ∧ Below w.heap.size w w' := by
  have e1 := u32_of x hx
  have e2 := u16_of n hn
  have HX := hideIt hx
  have HN := hideIt hn
  clear hx hn
  go_enter Try.func28, Try.ntmps28
  go_upto_region 2 with (at_make; refine wpZ_make rfl _ _ rfl _ _ _ _ 0 4092 rfl rfl rfl rfl (by omega) (by omega) ?_; intro g w1 s1 o1 k1)
  have b1 := below_of_grown k1 (Nat.le_refl _) (by simp)
  have ba := below1 w1 (.cells #[.int .u8 (k.toNat : Int)] 5)
  have o1a := o1.below ba
  have q1 := u8_one w1 k
  have b1a := b1.trans (ba.mono b1.size)
  clear k1 b1 ba o1
  go_upto_region 3 with (with_reducible refine wpZ_app rfl (.tmp 9) (.tmp 11) rfl _ _ _ _ rfl o1a rfl _ _ _ _ rfl q1 (by decide) 1 rfl (by decide) ?_; intro w2 o2 k2)
  have b2 := b1a.trans (below_of_grown k2 b1a.size (by simp; exact s1))
  clear k2 b1a q1 o1a
  go_upto_region 4 with (first
    | (with_reducible refine wpZ_app rfl (.tmp 13) (.tmp 17) rfl _ _ _ _ rfl o3a rfl _ _ _ _ rfl q3 (by decide) 5 rfl (by decide) ?_; intro w4 o4 k4)
    | (with_reducible refine wpZ_app rfl (.tmp 13) (.tmp 16) rfl _ _ _ _ rfl o3 rfl _ _ _ _ rfl q3.read (by decide) 5 rfl (by decide) ?_; intro w4 o4 k4)
    | (go_at_call 32; refine (Put32_calls none 0 0 [] x _ (RB.nil _) (by omega) HX.out).mono ?_; rintro en w3 ⟨g3, c3, rfl, s3, q3, b3⟩; have o3 := o2.below b3; have bb3 := b2.trans (b3.mono b2.size)))
  have b4 := bb3.trans (below_of_grown k4 bb3.size (by simp; exact s1))
  clear k4 bb3 b3 b2 o2 o3 q3 s3
  go_wp2_with (first
    | (with_reducible refine wpZ_app rfl (.tmp 18) (.tmp 21) rfl _ _ _ _ rfl o5 rfl _ _ _ _ rfl q5.read (by decide) 7 rfl (by decide) ?_; intro w6 o6 k6)
    | (go_at_call 40; refine (Put16_calls none 0 0 [] n _ (RB.nil _) (by omega) HN.out).mono ?_; rintro en w5 ⟨g5, c5, rfl, s5, q5, b5⟩; have o5 := o4.below b5; have bb5 := b4.trans (b5.mono b4.size)))
  go_ret
  exact ⟨g, rfl, s1, o6, bb5.trans (below_of_grown k6 bb5.size (by simp; exact s1))⟩
end Go.Proofs.Ythahedpkefojdaa
