/- Words: slices of ints; a row that grows from nothing (GC); append onto a block of which all is known. -/
import Derived.Test.YtieoleiokjoccaaB
namespace Go.Proofs.Ytieoleiokjoccaa
open Go.RowKit

/-! ### ints -/
def i64s (l : List Int) : List Value := l.map (.int .i64)
theorem i64s_length (l : List Int) : (i64s l).length = l.length := by simp [i64s]
theorem i64s_append (l m : List Int) : i64s (l ++ m) = i64s l ++ i64s m := by simp [i64s]
theorem i64s_get (l : List Int) (j : Nat) (h : j < l.length) : (i64s l)[j]? = some (.int .i64 l[j]) := by simp [i64s, h]
theorem i64s_one (l : List Int) : ∀ u ∈ i64s l, u.oneCell' = true := by
  intro u hu
  obtain ⟨_, _, rfl⟩ := List.mem_map.1 hu
  rfl
theorem i64s_take (l : List Int) (n : Nat) : (i64s l).take n = i64s (l.take n) := by simp [i64s]
/-- A slice of ints that reads as l. -/
def RI (w : World) (A : Option Addr) (n c : Nat) (l : List Int) : Prop := RC w 1 A n c (i64s l)
def OI (w : World) (g n c : Nat) (l : List Int) : Prop := OC w 3 1 g n c (i64s l)
theorem RI.len {w : World} {A : Option Addr} {n c : Nat} {l : List Int} (h : RI w A n c l) : l.length = n := by have := RC.len h; rw [i64s_length] at this; omega
theorem RI.below {w w' : World} {A : Option Addr} {n c : Nat} {l : List Int} (h : RI w A n c l) (hb : Below w.heap.size w w') : RI w' A n c l := RC.below h hb
theorem RI.nil (w : World) : RI w none 0 0 [] := ⟨rfl, Nat.le_refl _, Nat.zero_le _, fun _ => rfl, fun ad e => by cases e⟩
theorem RI.at_ {w : World} {A : Option Addr} {n c : Nat} {l : List Int} (h : RI w A n c l) (j : Nat) (hj : j < l.length) : ∃ ad, A = some ad ∧ w.cell? (ad.add j) = some (.int .i64 l[j]) := by
  obtain ⟨ad, u, e, hu, hc⟩ := RC.at_ h j (by rw [← h.len]; exact hj)
  rw [i64s_get l j hj] at hu
  injection hu with hu
  subst hu
  exact ⟨ad, e, hc⟩
theorem RI.max {w : World} {A : Option Addr} {n c : Nat} {l : List Int} (h : RI w A n c l) : n ≤ 9223372036854775807 := by
  have h1 := RC.le h; have h2 := RC.mx h; rw [maxLen_is] at h2; omega
theorem OI.read {w : World} {g n c : Nat} {l : List Int} (h : OI w g n c l) : RI w (some ⟨g, 0, none⟩) n c l := OC.read h
theorem OI.len {w : World} {g n c : Nat} {l : List Int} (h : OI w g n c l) : l.length = n := h.read.len
theorem OI.below {w w' : World} {g n c : Nat} {l : List Int} (h : OI w g n c l) (hb : Below w.heap.size w w') : OI w' g n c l := OC.below h hb
theorem OI.cell {w : World} {g n c : Nat} {l : List Int} (h : OI w g n c l) (j : Nat) (hj : j < l.length) : w.cell? ⟨g, j, none⟩ = some (.int .i64 l[j]) := OC.cell h j _ (i64s_get l j hj)
theorem info_int : (Try.prog.info? 3).map (fun i => (i.zero, i.size, i.bytes)) = some (some (.int .i64 0), 1, 8) := by kernel_rfl

/-! ### a row that grows -/
/-- nothing yet, or a block of the call's own. -/
def GC (w : World) (base e sz : Nat) (A : Option Addr) (n c : Nat) (cs : List Value) : Prop := w.ownsRow base e sz (.slice A n c) n cs
theorem GC.nil (w : World) (base e sz : Nat) : GC w base e sz none 0 0 [] := World.ownsRow_nil _ _ _ _
theorem GC.oc {w : World} {base e sz n c : Nat} {A : Option Addr} {cs : List Value} (h : GC w base e sz A n c cs) : (A = none ∧ n = 0 ∧ c = 0 ∧ cs = []) ∨ ∃ g, A = some ⟨g, 0, none⟩ ∧ base ≤ g ∧ OC w e sz g n c cs := by
  have h1 := h.1
  rcases h.2 with ⟨h', h2⟩ | ⟨g', cap, cur, h', hb, hg, r⟩
  · simp only [Value.slice.injEq] at h'
    obtain ⟨rfl, rfl, rfl⟩ := h'
    exact .inl ⟨rfl, rfl, rfl, List.eq_nil_of_length_eq_zero (by simpa using h1)⟩
  · simp only [Value.slice.injEq, true_and] at h'
    obtain ⟨rfl, rfl⟩ := h'
    exact .inr ⟨g', rfl, hb, OC.mk h1 cur hg r.1 r.2.1 r.2.2.1 r.2.2.2⟩
theorem GC.of {w : World} {base e sz g n c : Nat} {cs : List Value} (h : OC w e sz g n c cs) (hb : base ≤ g) : GC w base e sz (some ⟨g, 0, none⟩) n c cs := by
  obtain ⟨hl, cur, hg, r1, r2, r3, r4⟩ := h.block
  exact ⟨hl, .inr ⟨g, c, cur, rfl, hb, hg, r1, r2, r3, r4⟩⟩
theorem GC.read {w : World} {base e sz n c : Nat} {A : Option Addr} {cs : List Value} (h : GC w base e sz A n c cs) : RC w sz A n c cs := by
  rcases h.oc with ⟨rfl, rfl, rfl, rfl⟩ | ⟨g, rfl, _, o⟩
  · exact ⟨by simp, Nat.le_refl _, Nat.zero_le _, fun _ => rfl, fun ad e => by cases e⟩
  · exact o.read
theorem GC.same {w w' : World} {base e sz n c : Nat} {A : Option Addr} {cs : List Value} (h : GC w base e sz A n c cs) (hs : ∀ ad, A = some ad → Sm w w' ad.block) : GC w' base e sz A n c cs := by
  rcases h.oc with ⟨rfl, rfl, rfl, rfl⟩ | ⟨g, rfl, hb, o⟩
  · exact GC.nil _ _ _ _
  · exact GC.of (o.same (hs _ rfl)) hb
theorem GC.below {w w' : World} {base e sz n c : Nat} {A : Option Addr} {cs : List Value} (h : GC w base e sz A n c cs) (hb : Below w.heap.size w w') : GC w' base e sz A n c cs := by
  rcases h.oc with ⟨rfl, rfl, rfl, rfl⟩ | ⟨g, rfl, h2, o⟩
  · exact GC.nil _ _ _ _
  · exact GC.of (o.below hb) h2
/-- where a row's block alone is written, below the base nothing is. -/
theorem GC.under {w w' w0 : World} {base e sz n c : Nat} {A : Option Addr} {cs : List Value} (h : GC w base e sz A n c cs) (b : Below base w0 w) (hg : w.grownBy w' (A.map (·.block))) (hB : base ≤ w.heap.size) : Below base w0 w' := by
  refine b.trans (below_of_grown hg hB ?_)
  intro k hk
  rcases h.oc with ⟨rfl, rfl, rfl, rfl⟩ | ⟨g, rfl, h2, o⟩
  · cases hk
  · simp at hk; omega
/-- blocks of another type stay. -/
theorem OC.apart {w w' : World} {base e e' sz sz' n c g n' c' : Nat} {A : Option Addr} {cs cs' : List Value} (o : OC w e' sz' g n' c' cs') (h : GC w base e sz A n c cs) (hg : w.grownBy w' (A.map (·.block))) (ne : e' ≠ e) : OC w' e' sz' g n' c' cs' := by
  refine o.same (Sm.of_grown hg o.lt ?_)
  rcases h.oc with ⟨rfl, rfl, rfl, rfl⟩ | ⟨g2, rfl, h2, o2⟩
  · simp
  · simp only [Option.map_some, ne_eq, Option.some.injEq]
    rintro rfl
    obtain ⟨_, cur, q1, _⟩ := OC.block o
    obtain ⟨_, cur', q2, _⟩ := OC.block o2
    rw [q1] at q2
    injection q2 with q2
    injection q2 with _ q2
    exact ne q2
theorem GC.apart {w w' : World} {base base' e e' sz sz' n c n' c' : Nat} {A A' : Option Addr} {cs cs' : List Value} (o : GC w base' e' sz' A' n' c' cs') (h : GC w base e sz A n c cs) (hg : w.grownBy w' (A.map (·.block))) (ne : e' ≠ e) : GC w' base' e' sz' A' n' c' cs' := by
  rcases o.oc with ⟨rfl, rfl, rfl, rfl⟩ | ⟨g2, rfl, h2, o2⟩
  · exact GC.nil _ _ _ _
  · exact GC.of (o2.apart h hg ne) h2

/-- a row stays where an older block alone is written. -/
theorem GC.grown_lt {w w' : World} {base e sz n c r : Nat} {A : Option Addr} {cs : List Value} (h : GC w base e sz A n c cs) (gx : w.grownBy w' (some r)) (hr : r < base) : GC w' base e sz A n c cs := by
  rcases h.oc with ⟨rfl, rfl, rfl, rfl⟩ | ⟨g, rfl, hb, o⟩
  · exact GC.nil _ _ _ _
  · exact GC.of (o.same (Sm.of_grown gx o.lt (by simp; omega))) hb
theorem GC.lower {w : World} {base base' e sz n c : Nat} {A : Option Addr} {cs : List Value} (h : GC w base e sz A n c cs) (hb : base' ≤ base) : GC w base' e sz A n c cs := by
  rcases h.oc with ⟨rfl, rfl, rfl, rfl⟩ | ⟨g, rfl, h2, o⟩
  · exact GC.nil _ _ _ _
  · exact GC.of o (Nat.le_trans hb h2)

section
variable {P : Program} {w : World} {ops : Array Oper} {rest : List Oper} {o : Oper} {a : Act} {Q : Exit → Act → World → Prop}
/-- append of something onto a row that grows. -/
theorem wpG_app (hgd : o.guard = none) (s x : Operand) (t : TypeId) (ho : o.op = .call { callee := .builtin .append, args := #[s, x], argTypes := #[t, t] })
    (base e : Nat) (i : TypeInfo) (z : Value) (sz bytes : Nat) (ht : P.underlying t = some (.slice e)) (hi : P.info? e = some i) (hz : i.zero = some z)
    (hsize : i.size = sz) (hby : i.bytes = bytes) (hzs : z.cells.size = sz) (hsz : 0 < sz)
    (A : Option Addr) (n c : Nat) (xs : List Value) (hs : a.eval s = .slice A n c) (hown : GC w base e sz A n c xs)
    (ad : Addr) (m k : Nat) (news : List Value) (hx : a.eval x = .slice (some ad) m k) (hr : RC w sz (some ad) m k news) (h1 : ∀ u ∈ news, u.oneCell' = true) (hm : 0 < m)
    (hbytes : (n + m) * bytes ≤ 140737488355328) (h63 : n + m ≤ maxLen) (hbase : base ≤ w.heap.size)
    (h : ∀ g' c' w', base ≤ g' → OC w' e sz g' (n + m) c' (xs ++ news) → w.grownBy w' (A.map (·.block)) → wpList P ops Q rest (a.put o.dst (.slice (some ⟨g', 0, none⟩) (n + m) c')) w') :
    wpList P ops Q (o :: rest) a w := by
  refine wpList_append_own w hgd s x t ho base e i z sz bytes ht hi hz hsize hby hzs hsz (.slice A n c) n xs hs hown ad m k news hx hr.len (hr.cell ad rfl) h1 h63 hbytes hbase fun v' w' h2 h3 _ => ?_
  have hb : (Value.slice A n c).ownBlock = A.map (·.block) := by cases A <;> rfl
  rw [hb] at h3
  rcases h2.2 with ⟨h', h4⟩ | ⟨g', cap, cur, rfl, hb2, hg, r⟩
  · omega
  · exact h g' cap w' hb2 (OC.mk h2.1 cur hg r.1 r.2.1 r.2.2.1 r.2.2.2) h3
end

/-- a new cell with one int. -/
theorem RI.one (w : World) (z : Int) : RI (w.alloc (.cells #[.int .i64 z] 3)) (some ⟨w.heap.size, 0, none⟩) 1 1 [z] :=
  OC.read (e := 3) (OC.mk rfl _ (heap_alloc_new w _) (Nat.le_refl _) (by rw [maxLen_is]; omega) rfl rfl)

/-! ### bytes, all of a block known -/
section
variable {w : World} {ops : Array Oper} {rest : List Oper} {o : Oper} {a : Act} {Q : Exit → Act → World → Prop}
/-- append into the room of a block of which all bytes are known. -/
theorem wpW_app (hgd : o.guard = none) (s x : Operand) (ho : o.op = .call { callee := .builtin .append, args := #[s, x], argTypes := #[34, 34] })
    (g n c : Nat) (xs : List UInt8) (hs : a.eval s = .slice (some ⟨g, 0, none⟩) n c) (hown : OB w g c c xs)
    (A : Option Addr) (m k : Nat) (ys : List UInt8) (hx : a.eval x = .slice A m k) (hr : RB w A m k ys) (hm : 0 < m) (l : Nat) (hl : n + m = l) (hfit : l ≤ c)
    (h : ∀ w', OB w' g c c (xs.take n ++ (ys ++ xs.drop l)) → w.grownBy w' (some g) → wpList Try.prog ops Q rest (a.put o.dst (.slice (some ⟨g, 0, none⟩) l c)) w') :
    wpList Try.prog ops Q (o :: rest) a w := by
  obtain ⟨i0, hi, hz0, hz1, hz2⟩ := info_parts info_u8
  obtain ⟨ad, rfl, hc⟩ := RC.drop0 hr hm
  obtain ⟨hlen, cur, hg, r1, r2, r3, r4⟩ := OC.block hown
  have hyl := hr.len
  have hxl := hown.len
  rw [Nat.mul_one] at r3
  have ecur : cur.toList = u8s xs := by rw [← r4, Nat.mul_one, List.take_of_length_le (by rw [Array.length_toList, r3]; exact Nat.le_refl _)]
  have hcl : cur.toList.length = c := by rw [Array.length_toList]; exact r3
  have hrun := run_append_room (P := Try.prog) w 34 o.type 5 i0 Try.underlying34 hi g n c cur hg ad m k (u8s ys) (by rw [hz1]; exact RC.len hr) hc (u8s_one ys) (by omega) (by rw [hz1, u8s_length, hyl]; omega)
  rw [hz1, Nat.mul_one, u8s_length, hyl, hl] at hrun
  refine wpList_plain hgd fun K hK => ?_
  unfold Oper.wp
  simp only [execOp, ho, resolve]
  simp [invoke, builtin, hs, hx, hrun, Result.andThen]
  refine hK _ _ (h _ (OC.mk ?_ _ (setRow_heap w g cur _ 5 _ hg) (Nat.le_refl _) r2 ?_ ?_) ⟨rfl, rfl, rfl, by simp, fun q _ hq => setRow_other w g q _ (fun e => hq (by simp [e]))⟩)
  · rw [u8s_length, Nat.mul_one]; simp only [List.length_append, List.length_take, List.length_drop, hyl, hxl]; omega
  · simp only [List.size_toArray, List.length_append, List.length_take, List.length_drop, hcl, u8s_length, hyl]; omega
  · have : (u8s (xs.take n ++ (ys ++ xs.drop l))).length ≤ c := by rw [u8s_length]; simp only [List.length_append, List.length_take, List.length_drop, hyl, hxl]; omega
    simp only [ecur, u8s_append, u8s_take, u8s_drop, Nat.mul_one] at this ⊢
    exact List.take_of_length_le this
end
end Go.Proofs.Ytieoleiokjoccaa
