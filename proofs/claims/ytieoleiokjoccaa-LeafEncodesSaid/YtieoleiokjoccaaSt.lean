/- append as one operation and as a step of a drawn region, with all that is known of it: the block stays and is written, or a new one is made and nothing old is. -/
import Derived.Test.YtieoleiokjoccaaOM
import Derived.Deep.RegionHeld3
namespace Go.Proofs.Ytieoleiokjoccaa
open Go.RowKit

section
variable {P : Program} {w : World} {ops : Array Oper} {rest : List Oper} {o : Oper} {a : Act} {K : Act → World → Prop} {Q : Exit → Act → World → Prop} {E : Prop}
theorem op_app (s x : Operand) (t : TypeId) (ho : o.op = .call { callee := .builtin .append, args := #[s, x], argTypes := #[t, t] })
    (e : TypeId) (i : TypeInfo) (z : Value) (sz bytes : Nat) (ht : P.underlying t = some (.slice e)) (hi : P.info? e = some i) (hz : i.zero = some z)
    (hsize : i.size = sz) (hby : i.bytes = bytes) (hzs : z.cells.size = sz) (hsz : 0 < sz)
    (g n c : Nat) (xs : List Value) (hs : a.eval s = .slice (some ⟨g, 0, none⟩) n c) (hown : OC w e sz g n c xs)
    (A : Option Addr) (m k : Nat) (news : List Value) (hx : a.eval x = .slice A m k) (hr : RC w sz A m k news) (h1 : ∀ u ∈ news, u.oneCell' = true)
    (hbytes : (n + m) * bytes ≤ 140737488355328) (h63 : n + m ≤ maxLen)
    (hfit : n + m ≤ c → ∀ w', OC w' e sz g (n + m) c (xs ++ news) → w.grownBy w' (some g) → K (a.put o.dst (.slice (some ⟨g, 0, none⟩) (n + m) c)) w')
    (hnew : ¬ n + m ≤ c → ∀ c' w', OC w' e sz w.heap.size (n + m) c' (xs ++ news) → w.grownBy w' none → K (a.put o.dst (.slice (some ⟨w.heap.size, 0, none⟩) (n + m) c')) w') :
    o.wp P a w K Q := by
  have fin : ∀ v' w', (Builtin.append_ #[t, t] o.type #[.slice (some ⟨g, 0, none⟩) n c, .slice A m k]).run P w = .ok v' w' → K (a.put o.dst v') w' → o.wp P a w K Q := by
    intro v' w' hrun hk
    unfold Oper.wp
    simp [execOp, ho, resolve, invoke, builtin, hs, hx, hrun, Result.andThen]
    exact hk
  obtain ⟨hl, cur, hg, r1, r2, r3, r4⟩ := hown.block
  have hxl := hown.1
  by_cases hroom : n + m ≤ c
  · cases A with
    | none =>
      have hk0 := hr.non rfl
      have hm0 : m = 0 := by have := hr.le; omega
      subst hm0
      have hnews : news = [] := List.eq_nil_of_length_eq_zero (by have := hr.len; simpa using this)
      subst hnews
      subst hk0
      have hrun := run_append_owned_none (P := P) w 0 t o.type e i sz ht hi _ n xs hown
      refine fin _ _ hrun ?_
      have := hfit hroom w (by simpa using hown) (World.grownBy.refl _ _)
      simpa using this
    | some ad =>
      obtain ⟨w', hrun, k1, k2⟩ := run_append_fits (P := P) w 0 t o.type e i sz ht hi hsize g n c xs hown ad m k news hr.len (hr.cell ad rfl) h1 hroom
      exact fin _ _ hrun (hfit hroom w' (OC.of_own k1) k2)
  · cases A with
    | none =>
      have := hr.non rfl
      have := hr.le
      omega
    | some ad =>
      have hm' : n + m ≤ 9223372036854775807 := by simpa [maxLen] using h63
      subst hsize
      subst hby
      have hrun := run_append_grow (P := P) w t o.type e i z ht hi hz ⟨g, 0, none⟩ n c xs hxl (fun j u hu => World.ownsRow.cells hown (g := g) rfl j u hu) ad m k news hr.len (hr.cell ad rfl) (by omega) (by omega) (growslice_fits (by omega) hbytes)
      refine fin _ _ hrun ?_
      have hge := grownCap_ge w (n + m) c e
      have hcm : grownCap w (n + m) c e ≤ maxLen := grownCap_le_maxLen w (n + m) c e h63
      have hlen : (xs ++ news).length = (n + m) * i.size := by rw [List.length_append, hxl, hr.len, Nat.add_mul]
      refine hnew hroom _ _ (OC.mk hlen _ (heap_alloc_new w.drew _) hge hcm ?_ ?_) ⟨rfl, rfl, rfl, by simp, fun j hj _ => Below.heap_alloc w.drew _ j hj⟩
      · simp only [Array.size_append, List.size_toArray, size_zeroCells, hzs, hxl, hr.len, ← Nat.add_mul]
        congr 1
        omega
      · simp only [Array.toList_append, List.append_assoc]
        rw [← List.append_assoc, ← hlen]
        exact List.take_left
theorem step_of (hgd : o.guard = none) (h : o.wp P a w K Q) : if Region.wanted o (yielded ops a.tmps) = true then Oper.wp P o a w K Q else E := by
  have hw : Region.wanted o (yielded ops a.tmps) = true := by simp [Region.wanted, hgd]
  rw [if_pos hw]
  exact h
end
section
variable {w : World} {ops : Array Oper} {rest : List Oper} {o : Oper} {a : Act} {K : Act → World → Prop} {Q : Exit → Act → World → Prop} {E : Prop}
/-- append of bytes onto a block of its own: kept (and written) or new. -/
theorem opB_app (s x : Operand) (ho : o.op = .call { callee := .builtin .append, args := #[s, x], argTypes := #[34, 34] })
    (g n c : Nat) (xs : List UInt8) (hs : a.eval s = .slice (some ⟨g, 0, none⟩) n c) (hown : OB w g n c xs)
    (A : Option Addr) (m k : Nat) (ys : List UInt8) (hx : a.eval x = .slice A m k) (hr : RB w A m k ys) (l : Nat) (hl : n + m = l) (hb : l ≤ 140737488355328)
    (h : ∀ g' c' w', ((g' = g ∧ c' = c ∧ w.grownBy w' (some g)) ∨ (g' = w.heap.size ∧ w.grownBy w' none)) → OB w' g' l c' (xs ++ ys) → K (a.put o.dst (.slice (some ⟨g', 0, none⟩) l c')) w') :
    o.wp Try.prog a w K Q := by
  obtain ⟨i0, hi, hz0, hz1, hz2⟩ := info_parts info_u8
  subst hl
  refine op_app s x 34 ho 5 i0 (.int .u8 0) 1 1 Try.underlying34 hi hz0 hz1 hz2 rfl (by decide) g n c (u8s xs) hs hown A m k (u8s ys) hx hr (u8s_one ys) (by omega) (by rw [maxLen_is]; omega) ?_ ?_
  · intro _ w' h3 h4
    rw [← u8s_append] at h3
    exact h g c w' (Or.inl ⟨rfl, rfl, h4⟩) h3
  · intro _ c' w' h3 h4
    rw [← u8s_append] at h3
    exact h _ c' w' (Or.inr ⟨rfl, h4⟩) h3
theorem wpB_app2 (hgd : o.guard = none) (s x : Operand) (ho : o.op = .call { callee := .builtin .append, args := #[s, x], argTypes := #[34, 34] })
    (g n c : Nat) (xs : List UInt8) (hs : a.eval s = .slice (some ⟨g, 0, none⟩) n c) (hown : OB w g n c xs)
    (A : Option Addr) (m k : Nat) (ys : List UInt8) (hx : a.eval x = .slice A m k) (hr : RB w A m k ys) (l : Nat) (hl : n + m = l) (hb : l ≤ 140737488355328)
    (h : ∀ g' c' w', ((g' = g ∧ c' = c ∧ w.grownBy w' (some g)) ∨ (g' = w.heap.size ∧ w.grownBy w' none)) → OB w' g' l c' (xs ++ ys) → wpList Try.prog ops Q rest (a.put o.dst (.slice (some ⟨g', 0, none⟩) l c')) w') :
    wpList Try.prog ops Q (o :: rest) a w :=
  wpList_plain hgd fun _ hK => opB_app s x ho g n c xs hs hown A m k ys hx hr l hl hb fun g' c' w' h1 h2 => hK _ _ (h g' c' w' h1 h2)
theorem stepB_app (hgd : o.guard = none) (s x : Operand) (ho : o.op = .call { callee := .builtin .append, args := #[s, x], argTypes := #[34, 34] })
    (g n c : Nat) (xs : List UInt8) (hs : a.eval s = .slice (some ⟨g, 0, none⟩) n c) (hown : OB w g n c xs)
    (A : Option Addr) (m k : Nat) (ys : List UInt8) (hx : a.eval x = .slice A m k) (hr : RB w A m k ys) (l : Nat) (hl : n + m = l) (hb : l ≤ 140737488355328)
    (h : ∀ g' c' w', ((g' = g ∧ c' = c ∧ w.grownBy w' (some g)) ∨ (g' = w.heap.size ∧ w.grownBy w' none)) → OB w' g' l c' (xs ++ ys) → K (a.put o.dst (.slice (some ⟨g', 0, none⟩) l c')) w') :
    if Region.wanted o (yielded ops a.tmps) = true then Oper.wp Try.prog o a w K Q else E :=
  step_of hgd (opB_app s x ho g n c xs hs hown A m k ys hx hr l hl hb h)

/-- append onto a row that grows, as one operation. -/
theorem opG_app {P : Program} (s x : Operand) (t : TypeId) (ho : o.op = .call { callee := .builtin .append, args := #[s, x], argTypes := #[t, t] })
    (base e : Nat) (i : TypeInfo) (z : Value) (sz bytes : Nat) (ht : P.underlying t = some (.slice e)) (hi : P.info? e = some i) (hz : i.zero = some z)
    (hsize : i.size = sz) (hby : i.bytes = bytes) (hzs : z.cells.size = sz) (hsz : 0 < sz)
    (A : Option Addr) (n c : Nat) (xs : List Value) (hs : a.eval s = .slice A n c) (hown : GC w base e sz A n c xs)
    (ad : Addr) (m k : Nat) (news : List Value) (hx : a.eval x = .slice (some ad) m k) (hr : RC w sz (some ad) m k news) (h1 : ∀ u ∈ news, u.oneCell' = true) (hm : 0 < m)
    (hbytes : (n + m) * bytes ≤ 140737488355328) (h63 : n + m ≤ maxLen) (hbase : base ≤ w.heap.size)
    (h : ∀ g' c' w', base ≤ g' → OC w' e sz g' (n + m) c' (xs ++ news) → w.grownBy w' (A.map (·.block)) → K (a.put o.dst (.slice (some ⟨g', 0, none⟩) (n + m) c')) w') :
    o.wp P a w K Q := by
  have fin : ∀ v' w', (Builtin.append_ #[t, t] o.type #[.slice A n c, .slice (some ad) m k]).run P w = .ok v' w' → K (a.put o.dst v') w' → o.wp P a w K Q := by
    intro v' w' hrun hk
    unfold Oper.wp
    simp [execOp, ho, resolve, invoke, builtin, hs, hx, hrun, Result.andThen]
    exact hk
  obtain ⟨v', w', hrun, k1, k2, k3⟩ := run_append_own (P := P) w base t o.type e i z sz bytes ht hi hz hsize hby hzs hsz (.slice A n c) n xs hown ad m k news hr.len (hr.cell ad rfl) h1 h63 hbytes hbase
  refine fin _ _ hrun ?_
  have hb : (Value.slice A n c).ownBlock = A.map (·.block) := by cases A <;> rfl
  rw [hb] at k2
  rcases k1.2 with ⟨h', h4⟩ | ⟨g', cap, cur, rfl, hb2, hg, r⟩
  · omega
  · exact h g' cap w' hb2 (OC.mk k1.1 cur hg r.1 r.2.1 r.2.2.1 r.2.2.2) k2
/-- append onto nothing or onto a block of its own, with all that is known of it. -/
theorem opX_app {P : Program} (s x : Operand) (t : TypeId) (ho : o.op = .call { callee := .builtin .append, args := #[s, x], argTypes := #[t, t] })
    (base e : Nat) (i : TypeInfo) (z : Value) (sz bytes : Nat) (ht : P.underlying t = some (.slice e)) (hi : P.info? e = some i) (hz : i.zero = some z)
    (hsize : i.size = sz) (hby : i.bytes = bytes) (hzs : z.cells.size = sz) (hsz : 0 < sz)
    (A : Option Addr) (n c : Nat) (xs : List Value) (hs : a.eval s = .slice A n c) (hown : GC w base e sz A n c xs)
    (ad : Addr) (m k : Nat) (news : List Value) (hx : a.eval x = .slice (some ad) m k) (hr : RC w sz (some ad) m k news) (h1 : ∀ u ∈ news, u.oneCell' = true) (hm : 0 < m)
    (hbytes : (n + m) * bytes ≤ 140737488355328) (h63 : n + m ≤ maxLen)
    (h : ∀ g' c' w', ((∃ g, A = some ⟨g, 0, none⟩ ∧ g' = g ∧ c' = c ∧ w.grownBy w' (some g)) ∨ (w.heap.size ≤ g' ∧ w.grownBy w' none)) → OC w' e sz g' (n + m) c' (xs ++ news) → K (a.put o.dst (.slice (some ⟨g', 0, none⟩) (n + m) c')) w') :
    o.wp P a w K Q := by
  rcases hown.oc with ⟨rfl, rfl, rfl, rfl⟩ | ⟨g, rfl, hb, own⟩
  · have hm' : m ≤ 9223372036854775807 := by have : m ≤ maxLen := by omega
                                             simpa [maxLen] using this
    subst hsize
    subst hby
    have hl := hr.len
    rw [Nat.zero_add] at hbytes h63
    have hrun := run_append_nil (P := P) w t o.type e i z ht hi hz ad m k news hl (hr.cell ad rfl) (by omega) (by omega) (by omega)
    have fin : ∀ v' w', (Builtin.append_ #[t, t] o.type #[.slice none 0 0, .slice (some ad) m k]).run P w = .ok v' w' → K (a.put o.dst v') w' → o.wp P a w K Q := by
      intro v' w' hrun hk
      unfold Oper.wp
      simp [execOp, ho, resolve, invoke, builtin, hs, hx, hrun, Result.andThen]
      exact hk
    refine fin _ _ hrun ?_
    have hge := grownCap_ge w m 0 e
    have hcm : grownCap w m 0 e ≤ maxLen := grownCap_le_maxLen w m 0 e h63
    have := h w.heap.size (grownCap w m 0 e) (w.drew.alloc (.cells (news.toArray ++ Builtin.zeroCells z.cells (grownCap w m 0 e - m)) e)) (Or.inr ⟨Nat.le_refl _, ⟨rfl, rfl, rfl, by simp, fun j hj _ => Below.heap_alloc w.drew _ j hj⟩⟩) (OC.mk (by rw [List.nil_append, Nat.zero_add]; exact hl) _ (heap_alloc_new w.drew _) (by omega) hcm (by
      simp only [Array.size_append, List.size_toArray, size_zeroCells, hzs, hl, ← Nat.add_mul]
      congr 1
      omega) (by
      simp only [Array.toList_append, List.nil_append, Nat.zero_add]
      rw [← hl]
      exact List.take_left))
    simpa using this
  · exact op_app s x t ho e i z sz bytes ht hi hz hsize hby hzs hsz g n c xs hs own (some ad) m k news hx hr h1 hbytes h63
      (fun _ w' k1 k2 => h g c w' (Or.inl ⟨g, rfl, rfl, rfl, k2⟩) k1) (fun _ c' w' k1 k2 => h _ c' w' (Or.inr ⟨Nat.le_refl _, k2⟩) k1)
theorem stepU_app (hgd : o.guard = none) (s x : Operand) (ho : o.op = .call { callee := .builtin .append, args := #[s, x], argTypes := #[34, 34] })
    (base : Nat) (A : Option Addr) (n c : Nat) (xs : List Value) (hs : a.eval s = .slice A n c) (hown : GC w base 5 1 A n c xs)
    (ad : Addr) (y : Value) (hx : a.eval x = .slice (some ad) 1 1) (hr : RC w 1 (some ad) 1 1 [y]) (h1 : y.oneCell' = true) (hb : n ≤ 100000000)
    (h : ∀ g' c' w', ((∃ g, A = some ⟨g, 0, none⟩ ∧ g' = g ∧ c' = c ∧ w.grownBy w' (some g)) ∨ (w.heap.size ≤ g' ∧ w.grownBy w' none)) → OC w' 5 1 g' (n + 1) c' (xs ++ [y]) → K (a.put o.dst (.slice (some ⟨g', 0, none⟩) (n + 1) c')) w') :
    if Region.wanted o (yielded ops a.tmps) = true then Oper.wp Try.prog o a w K Q else E := by
  obtain ⟨i0, hi, hz0, hz1, hz2⟩ := info_parts info_u8
  exact step_of hgd (opX_app s x 34 ho base 5 i0 (.int .u8 0) 1 1 Try.underlying34 hi hz0 hz1 hz2 rfl (by decide) A n c xs hs hown ad 1 1 [y] hx hr (by simpa using h1) (by decide) (by omega) (by rw [maxLen_is]; omega) h)
theorem stepM_app (hgd : o.guard = none) (s x : Operand) (ho : o.op = .call { callee := .builtin .append, args := #[s, x], argTypes := #[85, 85] })
    (base : Nat) (A : Option Addr) (n c : Nat) (l : List Value) (hs : a.eval s = .slice A n c) (hown : GC w base 34 1 A n c l)
    (ad : Addr) (p : Option Addr × Nat × Nat) (hx : a.eval x = .slice (some ad) 1 1) (hr : RC w 1 (some ad) 1 1 [sv p]) (hb : n + 1 ≤ 1000000) (hbase : base ≤ w.heap.size)
    (h : ∀ g' c' w', base ≤ g' → OC w' 34 1 g' (n + 1) c' (l ++ [sv p]) → w.grownBy w' (A.map (·.block)) → K (a.put o.dst (.slice (some ⟨g', 0, none⟩) (n + 1) c')) w') :
    if Region.wanted o (yielded ops a.tmps) = true then Oper.wp Try.prog o a w K Q else E := by
  obtain ⟨i0, hi, hz0, hz1, hz2⟩ := info_parts info_bs
  exact step_of hgd (opG_app s x 85 ho base 34 i0 (.slice none 0 0) 1 24 Try.underlying85 hi hz0 hz1 hz2 rfl (by decide) A n c l hs hown ad 1 1 [sv p] hx hr (sv_one [p]) (by decide) (by omega) (by rw [maxLen_is]; omega) hbase h)
theorem grown_any {w w' : World} {row : Option Nat} (h : w.grownBy w' none) : w.grownBy w' row := ⟨h.os, h.tape, h.output, h.size, fun k hk _ => h.block k hk (by simp)⟩
/-- append onto a row of slices that grows: and where the row lies then. -/
theorem opMx_app (s x : Operand) (ho : o.op = .call { callee := .builtin .append, args := #[s, x], argTypes := #[85, 85] })
    (base : Nat) (A : Option Addr) (n c : Nat) (l : List Value) (hs : a.eval s = .slice A n c) (hown : GC w base 34 1 A n c l)
    (ad : Addr) (p : Option Addr × Nat × Nat) (hx : a.eval x = .slice (some ad) 1 1) (hr : RC w 1 (some ad) 1 1 [sv p]) (hb : n + 1 ≤ 1000000) (hbase : base ≤ w.heap.size)
    (h : ∀ g' c' w', base ≤ g' → ((∃ b, A = some b ∧ g' = b.block) ∨ w.heap.size ≤ g') → OC w' 34 1 g' (n + 1) c' (l ++ [sv p]) → w.grownBy w' (A.map (·.block)) → K (a.put o.dst (.slice (some ⟨g', 0, none⟩) (n + 1) c')) w') :
    o.wp Try.prog a w K Q := by
  obtain ⟨i0, hi, hz0, hz1, hz2⟩ := info_parts info_bs
  refine opX_app s x 85 ho base 34 i0 (.slice none 0 0) 1 24 Try.underlying85 hi hz0 hz1 hz2 rfl (by decide) A n c l hs hown ad 1 1 [sv p] hx hr (sv_one [p]) (by decide) (by omega) (by rw [maxLen_is]; omega) fun g' c' w' q o' => ?_
  rcases q with ⟨g, rfl, rfl, rfl, k⟩ | ⟨hg, k⟩
  · rcases hown.oc with ⟨e0, _⟩ | ⟨g0, e0, hb0, _⟩
    · cases e0
    · cases e0
      exact h _ _ w' hb0 (Or.inl ⟨_, rfl, rfl⟩) o' k
  · exact h _ _ w' (Nat.le_trans hbase hg) (Or.inr hg) o' (grown_any k)
theorem wpMx_app (hgd : o.guard = none) (s x : Operand) (ho : o.op = .call { callee := .builtin .append, args := #[s, x], argTypes := #[85, 85] })
    (base : Nat) (A : Option Addr) (n c : Nat) (l : List Value) (hs : a.eval s = .slice A n c) (hown : GC w base 34 1 A n c l)
    (ad : Addr) (p : Option Addr × Nat × Nat) (hx : a.eval x = .slice (some ad) 1 1) (hr : RC w 1 (some ad) 1 1 [sv p]) (hb : n + 1 ≤ 1000000) (hbase : base ≤ w.heap.size)
    (h : ∀ g' c' w', base ≤ g' → ((∃ b, A = some b ∧ g' = b.block) ∨ w.heap.size ≤ g') → OC w' 34 1 g' (n + 1) c' (l ++ [sv p]) → w.grownBy w' (A.map (·.block)) → wpList Try.prog ops Q rest (a.put o.dst (.slice (some ⟨g', 0, none⟩) (n + 1) c')) w') :
    wpList Try.prog ops Q (o :: rest) a w :=
  wpList_plain hgd fun _ hK => opMx_app s x ho base A n c l hs hown ad p hx hr hb hbase fun g' c' w' h1 h2 h3 h4 => hK _ _ (h g' c' w' h1 h2 h3 h4)
theorem stepMx_app (hgd : o.guard = none) (s x : Operand) (ho : o.op = .call { callee := .builtin .append, args := #[s, x], argTypes := #[85, 85] })
    (base : Nat) (A : Option Addr) (n c : Nat) (l : List Value) (hs : a.eval s = .slice A n c) (hown : GC w base 34 1 A n c l)
    (ad : Addr) (p : Option Addr × Nat × Nat) (hx : a.eval x = .slice (some ad) 1 1) (hr : RC w 1 (some ad) 1 1 [sv p]) (hb : n + 1 ≤ 1000000) (hbase : base ≤ w.heap.size)
    (h : ∀ g' c' w', base ≤ g' → ((∃ b, A = some b ∧ g' = b.block) ∨ w.heap.size ≤ g') → OC w' 34 1 g' (n + 1) c' (l ++ [sv p]) → w.grownBy w' (A.map (·.block)) → K (a.put o.dst (.slice (some ⟨g', 0, none⟩) (n + 1) c')) w') :
    if Region.wanted o (yielded ops a.tmps) = true then Oper.wp Try.prog o a w K Q else E :=
  step_of hgd (opMx_app s x ho base A n c l hs hown ad p hx hr hb hbase h)
end
end Go.Proofs.Ytieoleiokjoccaa
