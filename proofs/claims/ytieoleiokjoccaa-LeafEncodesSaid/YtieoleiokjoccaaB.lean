/- Laws for slices of bytes in the words of V: make, append, copy, literals. -/
import Derived.Test.YtieoleiokjoccaaV
import Derived.Test.YtieoleiokjoccaaChecked
namespace Go.Proofs.Ytieoleiokjoccaa
open Go.RowKit

theorem info_u8 : (Try.prog.info? 5).map (fun i => (i.zero, i.size, i.bytes)) = some (some (.int .u8 0), 1, 1) := by kernel_rfl
theorem info1_u8 : (Try.prog.info? 5).map (·.size) = some 1 := by kernel_rfl
theorem maxLen_is : maxLen = 9223372036854775807 := by simp [maxLen]

theorem splice_take {α : Type} (X R Y : List α) (off n : Nat) (hX : X.length = n) (h : off + Y.length ≤ n) :
    ((X ++ R).take off ++ (Y ++ (X ++ R).drop (off + Y.length))).take n = X.take off ++ (Y ++ X.drop (off + Y.length)) := by
  have e1 : (X ++ R).take off = X.take off := List.take_append_of_le_length (by omega)
  have e2 : (X ++ R).drop (off + Y.length) = X.drop (off + Y.length) ++ R := List.drop_append_of_le_length (by omega)
  have hn : (X.take off ++ (Y ++ X.drop (off + Y.length))).length = n := by simp only [List.length_append, List.length_take, List.length_drop]; omega
  rw [e1, e2, ← List.append_assoc Y, ← List.append_assoc, ← hn]
  exact List.take_left

section
variable {w : World} {ops : Array Oper} {rest : List Oper} {o : Oper} {a : Act} {Q : Exit → Act → World → Prop}

theorem wpB_make (hg : o.guard = none) (l c : Operand) (hop : o.op = Op.makeSlice 34 l c) (kl kc : IntKind) (C : Int) (n : Nat) (hl : a.eval l = .int kl 0) (hc : a.eval c = .int kc C) (hC : C = (n : Int)) (hn : n ≤ 140737488355328)
    (h : ∀ g w', w.heap.size ≤ g → OB w' g 0 n [] → w.grownBy w' none → wpList Try.prog ops Q rest (a.put o.dst (.slice (some ⟨g, 0, none⟩) 0 n)) w') : wpList Try.prog ops Q (o :: rest) a w := by
  obtain ⟨i0, hi, hz0, hz1, hz2⟩ := info_parts info_u8
  exact wpList_make_own w hg l c 34 hop 0 5 i0 (.int .u8 0) 1 Try.underlying34 hi hz0 hz1 kl kc C n hl hc hC (by rw [hz2]; omega) (by rw [maxLen_is]; omega) (Nat.zero_le _)
    fun w' h1 h2 => h _ w' (Nat.le_refl _) (OC.of_own h1) h2

theorem u8s_zeros (n : Nat) : u8s (List.replicate n 0) = List.replicate n (.int .u8 0) := by simp [u8s]

theorem wpB_full (hg : o.guard = none) (l c : Operand) (hop : o.op = Op.makeSlice 34 l c) (kl kc : IntKind) (L C : Int) (n : Nat) (hl : a.eval l = .int kl L) (hc : a.eval c = .int kc C) (hL : L = (n : Int)) (hC : C = (n : Int)) (hn : n ≤ 140737488355328)
    (h : ∀ g w', w.heap.size ≤ g → OB w' g n n (zeros n) → w.grownBy w' none → wpList Try.prog ops Q rest (a.put o.dst (.slice (some ⟨g, 0, none⟩) n n)) w') : wpList Try.prog ops Q (o :: rest) a w := by
  obtain ⟨i0, hi, hz0, hz1, hz2⟩ := info_parts info_u8
  refine wpList_make_full w hg l c 34 hop 0 5 i0 (.int .u8 0) 1 Try.underlying34 hi hz0 hz1 kl kc L C n hl hc hL hC (by rw [hz2]; omega) (by rw [maxLen_is]; omega) (Nat.zero_le _)
    fun w' h1 h2 => h _ w' (Nat.le_refl _) ?_ h2
  have e : (madeCells (Value.cells (.int .u8 0)) (n * 1)).toList = u8s (List.replicate n 0) := by
    rw [u8s_zeros, Nat.mul_one]
    exact toList_madeCells_one _ _
  rw [e] at h1
  exact OC.of_own h1

theorem wpB_app (hgd : o.guard = none) (s x : Operand) (ho : o.op = .call { callee := .builtin .append, args := #[s, x], argTypes := #[34, 34] })
    (g n c : Nat) (xs : List UInt8) (hs : a.eval s = .slice (some ⟨g, 0, none⟩) n c) (hown : OB w g n c xs)
    (A : Option Addr) (m k : Nat) (ys : List UInt8) (hx : a.eval x = .slice A m k) (hr : RB w A m k ys) (l : Nat) (hl : n + m = l) (hb : l ≤ 140737488355328)
    (h : ∀ g' c' w', (g' = g ∨ w.heap.size ≤ g') → Hid (l ≤ c → g' = g ∧ c' = c) → OB w' g' l c' (xs ++ ys) → w.grownBy w' (some g) → wpList Try.prog ops Q rest (a.put o.dst (.slice (some ⟨g', 0, none⟩) l c')) w') :
    wpList Try.prog ops Q (o :: rest) a w := by
  obtain ⟨i0, hi, hz0, hz1, hz2⟩ := info_parts info_u8
  refine wpList_app hgd s x 34 ho 5 i0 (.int .u8 0) 1 1 Try.underlying34 hi hz0 hz1 hz2 rfl (by decide) g n c (u8s xs) hs hown A m k (u8s ys) hx hr (u8s_one ys) (by omega) (by rw [maxLen_is]; omega) ?_
  intro g' c' w' h1 h2 h3 h4
  rw [← u8s_append] at h3
  subst hl
  exact h g' c' w' (by rcases h1 with e | e <;> omega) h2 h3 h4

/-- append onto nothing: a new block, or nothing still. -/
theorem wpB_app_nil (hgd : o.guard = none) (s x : Operand) (ho : o.op = .call { callee := .builtin .append, args := #[s, x], argTypes := #[34, 34] })
    (hs : a.eval s = .slice none 0 0) (A : Option Addr) (m k : Nat) (ys : List UInt8) (hx : a.eval x = .slice A m k) (hr : RB w A m k ys) (hb : m ≤ 140737488355328)
    (h0 : m = 0 → wpList Try.prog ops Q rest (a.put o.dst (.slice none 0 0)) w)
    (h : ∀ g c' w', 0 < m → w.heap.size ≤ g → OB w' g m c' ys → w.grownBy w' none → wpList Try.prog ops Q rest (a.put o.dst (.slice (some ⟨g, 0, none⟩) m c')) w') :
    wpList Try.prog ops Q (o :: rest) a w := by
  obtain ⟨i0, hi, hz0, hz1, hz2⟩ := info_parts info_u8
  refine wpList_plain hgd fun K hK => ?_
  have fin : ∀ v' w', (Builtin.append_ #[34, 34] o.type #[.slice none 0 0, .slice A m k]).run Try.prog w = .ok v' w' → K (a.put o.dst v') w' → o.wp Try.prog a w K Q := by
    intro v' w' hrun hk
    unfold Oper.wp
    simp [execOp, ho, resolve, invoke, builtin, hs, hx, hrun, Result.andThen]
    exact hk
  rcases Nat.eq_zero_or_pos m with hm | hm
  · have hk : ys = [] := List.eq_nil_of_length_eq_zero (by rw [hr.len, hm])
    subst hk
    cases A with
    | none =>
      have hk0 := RC.non hr rfl
      subst hm hk0
      exact fin _ _ (run_append_owned_none (P := Try.prog) w 0 34 o.type 5 i0 1 Try.underlying34 hi _ 0 [] (World.ownsRow_nil _ _ _ _)) (hK _ _ (h0 rfl))
    | some ad =>
      obtain ⟨v', w', hrun, k1, k2, k3⟩ := run_append_own (P := Try.prog) w 0 34 o.type 5 i0 (.int .u8 0) 1 1 Try.underlying34 hi hz0 hz1 hz2 rfl (by decide) (.slice none 0 0) 0 [] (World.ownsRow_nil _ _ _ _) ad m k (u8s []) (RC.len hr) (RC.cell hr ad rfl) (u8s_one _) (by rw [maxLen_is]; omega) (by omega) (Nat.zero_le _)
      have hv := k3.2 ⟨rfl, hm⟩
      subst hv
      have hrun' : (Builtin.append_ #[34, 34] o.type #[.slice none 0 0, .slice (some ad) m k]).run Try.prog w = .ok (.slice none 0 0) w := by
        subst hm
        simp [Builtin.append_, run_underlying Try.underlying34, sizeOf, typeInfo, hi, Builtin.lenOf, Builtin.firstCells, loadCells, loadCellsFrom]
      exact fin _ _ hrun' (hK _ _ (h0 hm))
  · cases A with
    | none => have := RC.non hr rfl; have := RC.le hr; omega
    | some ad =>
      have hrun := run_append_nil (P := Try.prog) w 34 o.type 5 i0 (.int .u8 0) Try.underlying34 hi hz0 ad m k (u8s ys) (by rw [hz1]; exact RC.len hr) (RC.cell hr ad rfl) (by omega) (by omega) (by rw [hz2]; omega)
      refine fin _ _ hrun (hK _ _ ?_)
      have hge := grownCap_ge w m 0 5
      have hcm : grownCap w m 0 5 ≤ maxLen := grownCap_le_maxLen w m 0 5 (by rw [maxLen_is]; omega)
      have hl := RC.len hr
      refine h _ _ _ hm (Nat.le_refl _) (OC.mk hl _ (heap_alloc_new w.drew _) hge hcm ?_ ?_) ⟨rfl, rfl, rfl, by simp, fun j hj _ => Below.heap_alloc w.drew _ j hj⟩
      · simp only [Array.size_append, List.size_toArray, size_zeroCells, hl]
        show m * 1 + (grownCap w m 0 5 - m) * 1 = _
        omega
      · simp only [Array.toList_append]
        rw [← hl]
        exact List.take_left

/-- copy into a place of a block of its own. -/
theorem wpB_copy (hgd : o.guard = none) (d s : Operand) (ho : o.op = .call { callee := .builtin .copy, args := #[d, s], argTypes := #[34, 34] })
    (D : Option Addr) (dl dc : Nat) (hd : a.eval d = .slice D dl dc) (A : Option Addr) (m k : Nat) (hs : a.eval s = .slice A m k)
    (g n c off : Nat) (xs ys : List UInt8) (hown : OB w g n c xs) (hr : RB w A m k ys) (j : Nat) (hj : j = min m dl) (hD : 0 < j → D = some ⟨g, off, none⟩) (hfit : off + j ≤ n)
    (h : ∀ w', OB w' g n c (xs.take off ++ (ys.take j ++ xs.drop (off + j))) → w.grownBy w' (some g) → wpList Try.prog ops Q rest (a.put o.dst (.int .i64 j)) w') :
    wpList Try.prog ops Q (o :: rest) a w := by
  have hyl := hr.len
  have hxl := hown.len
  by_cases h0 : j = 0
  · refine wpList_copy_nothing hgd d s 34 34 ho 5 Try.underlying34 info1_u8 D A dl dc m k hd hs (by show min m dl = 0; omega) ?_
    subst h0
    have := h w (by simpa using hown) (World.grownBy.refl _ _)
    simpa [goInt] using this
  · have hm : 0 < m := by omega
    obtain ⟨ad, rfl, hc⟩ := RC.drop0 hr hm
    have hDD := hD (by omega)
    subst hDD
    obtain ⟨hl, cur, hg, r1, r2, r3, r4⟩ := OC.block hown
    rw [Nat.mul_one] at r3 r4 hl
    refine wpList_copy_own hgd d s 34 34 ho 5 Try.underlying34 info1_u8 g off dl dc ad m k hd hs cur 5 hg (u8s (ys.take j)) (by rw [u8s_length, List.length_take, hyl]; show min j m = min m dl; first | omega | (subst hj; omega))
      (fun i u hu => hc i u (by
        rw [← u8s_take, List.getElem?_take] at hu
        split at hu
        · exact hu
        · cases hu)) (by rw [u8s_length, List.length_take]; omega) (u8s_one _) ?_
    have hjl : (u8s (ys.take j)).length = j := by rw [u8s_length, List.length_take]; omega
    have hcl : cur.toList.length = c := by rw [Array.length_toList]; exact r3
    rw [hjl]
    refine h _ (OC.mk (by simp [u8s_length]; omega) _ (setRow_heap w g cur _ 5 _ hg) r1 r2 ?_ ?_) ⟨rfl, rfl, rfl, by simp, fun q _ hq => setRow_other w g q _ (fun e => hq (by simp [e]))⟩
    · simp only [List.size_toArray, List.length_append, List.length_take, List.length_drop, hjl, hcl]
      omega
    · have hsp := splice_take (u8s xs) (cur.toList.drop n) (u8s (ys.take j)) off n (by rw [u8s_length]; exact hxl) (by rw [hjl]; exact hfit)
      have e3 : u8s xs ++ cur.toList.drop n = cur.toList := by rw [← r4, List.take_append_drop]
      rw [hjl, e3, u8s_take, u8s_drop] at hsp
      rw [Nat.mul_one, u8s_append, u8s_append]
      exact hsp
end

/-- A literal's block reads as its bytes. -/
theorem RB.lit (w : World) (xs : List UInt8) (n : Nat) (hn : xs.length = n) (hm : n ≤ maxLen) : OB (w.alloc (.cells (u8s xs).toArray 5)) w.heap.size n n xs :=
  OC.mk (by rw [u8s_length]; omega) _ (heap_alloc_new w _) (Nat.le_refl _) hm (by simp [u8s_length, hn]) (by rw [Nat.mul_one]; exact List.take_of_length_le (by simp [u8s_length, hn]))
end Go.Proofs.Ytieoleiokjoccaa
