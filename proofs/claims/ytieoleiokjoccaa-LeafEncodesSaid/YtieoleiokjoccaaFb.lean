/- Words: slices of items that are read (RT), and of the call's own (OT). -/
import Derived.Test.YtieoleiokjoccaaFa
import Derived.Test.YtieoleiokjoccaaSt
namespace Go.Proofs.Ytieoleiokjoccaa
open Go.RowKit

/-- A slice of items that reads as l: four cells each. -/
structure RT (w : World) (A : Option Addr) (n c : Nat) (vs : List Value) (l : List It) : Prop where
  rc : RC w 4 A n c vs
  len : l.length = n
  each : ∀ (j : Nat) (x : It), l[j]? = some x → ∃ (p q : Option Addr × Nat × Nat), vs[j * 4]? = some (sv p) ∧ vs[j * 4 + 1]? = some (sv q) ∧ vs[j * 4 + 2]? = some (.int .i64 x.s) ∧ vs[j * 4 + 3]? = some (.int .i64 x.f) ∧ RB w p.1 p.2.1 p.2.2 x.k ∧ RB w q.1 q.2.1 q.2.2 x.v
theorem RT.below {w w' : World} {A : Option Addr} {n c : Nat} {vs : List Value} {l : List It} (h : RT w A n c vs l) (hb : Below w.heap.size w w') : RT w' A n c vs l :=
  ⟨h.rc.below hb, h.len, fun j x hj => by obtain ⟨p, q, e1, e2, e3, e4, r1, r2⟩ := h.each j x hj; exact ⟨p, q, e1, e2, e3, e4, r1.below hb, r2.below hb⟩⟩
theorem RT.max {w : World} {A : Option Addr} {n c : Nat} {vs : List Value} {l : List It} (h : RT w A n c vs l) : n ≤ 9223372036854775807 := by
  have h1 := RC.le h.rc; have h2 := RC.mx h.rc; rw [maxLen_is] at h2; omega
theorem add_more (ad : Addr) (j k : Nat) : ad.add (j * 4 + (k + 1)) = ⟨(ad.add (j * 4)).block, (ad.add (j * 4)).off + (k + 1), none⟩ := by
  rw [← Addr.add_add, Addr.add_succ']
/-- The four cells of an item at an address. -/
structure ItAt (w : World) (a : Addr) (p q : Option Addr × Nat × Nat) (s f : Int) : Prop where
  c0 : w.cell? a = some (.slice p.1 p.2.1 p.2.2)
  c1 : w.cell? ⟨a.block, a.off + 1, none⟩ = some (.slice q.1 q.2.1 q.2.2)
  c2 : w.cell? ⟨a.block, a.off + 2, none⟩ = some (.int .i64 s)
  c3 : w.cell? ⟨a.block, a.off + 3, none⟩ = some (.int .i64 f)
theorem RT.row {w : World} {A : Option Addr} {n c : Nat} {vs : List Value} {l : List It} (h : RT w A n c vs l) (j : Nat) (hj : j < n) :
    ∃ (ad : Addr) (p q : Option Addr × Nat × Nat) (x : It), A = some ad ∧ l[j]? = some x ∧ ItAt w (ad.add (j * 4)) p q x.s x.f ∧ RB w p.1 p.2.1 p.2.2 x.k ∧ RB w q.1 q.2.1 q.2.2 x.v := by
  obtain ⟨x, hx⟩ : ∃ x, l[j]? = some x := ⟨_, List.getElem?_eq_getElem (by rw [h.len]; exact hj)⟩
  obtain ⟨p, q, e0, e1, e2, e3, r1, r2⟩ := h.each j x hx
  obtain ⟨ad, e, hc⟩ := RC.drop0 h.rc (by omega)
  refine ⟨ad, p, q, x, e, hx, ⟨hc _ _ e0, ?_, ?_, ?_⟩, r1, r2⟩
  · rw [← add_more]; exact hc _ _ e1
  · rw [← add_more]; exact hc _ _ e2
  · rw [← add_more]; exact hc _ _ e3

/-! ### items of the call's own -/
structure Cel where
  p : Option Addr × Nat × Nat
  q : Option Addr × Nat × Nat
  x : It
def itv (z : Cel) : List Value := [sv z.p, sv z.q, .int .i64 z.x.s, .int .i64 z.x.f]
def itvs : List Cel → List Value
  | [] => []
  | z :: l => sv z.p :: sv z.q :: .int .i64 z.x.s :: .int .i64 z.x.f :: itvs l
theorem itvs_length (l : List Cel) : (itvs l).length = l.length * 4 := by
  induction l with
  | nil => rfl
  | cons z l ih => simp only [itvs, List.length_cons, ih]; omega
theorem itvs_append (a b : List Cel) : itvs (a ++ b) = itvs a ++ itvs b := by
  induction a with
  | nil => rfl
  | cons z a ih => rw [List.cons_append, itvs, itvs, ih]; rfl
theorem itvs_one' (z : Cel) : itvs [z] = itv z := rfl
theorem itvs_get (l : List Cel) (j : Nat) (z : Cel) (h : l[j]? = some z) : (itvs l)[j * 4]? = some (sv z.p) ∧ (itvs l)[j * 4 + 1]? = some (sv z.q) ∧ (itvs l)[j * 4 + 2]? = some (.int .i64 z.x.s) ∧ (itvs l)[j * 4 + 3]? = some (.int .i64 z.x.f) := by
  induction l generalizing j with
  | nil => simp at h
  | cons y l ih =>
    cases j with
    | zero =>
      simp at h; subst h
      exact ⟨rfl, rfl, rfl, rfl⟩
    | succ j =>
      have := ih j (by simpa using h)
      rw [show (j + 1) * 4 = j * 4 + 1 + 1 + 1 + 1 by omega]
      exact this
theorem itvs_one (l : List Cel) : ∀ u ∈ itvs l, u.oneCell' = true := by
  induction l with
  | nil => intro u hu; cases hu
  | cons z l ih =>
    intro u hu
    rw [itvs] at hu
    simp only [List.mem_cons] at hu
    rcases hu with rfl | rfl | rfl | rfl | hu
    · rfl
    · rfl
    · rfl
    · rfl
    · exact ih u hu
/-- the slices of a cell. -/
def slots (l : List Cel) : List (Option Addr × Nat × Nat) := l.flatMap fun z => [z.p, z.q]
theorem slots_append (a b : List Cel) : slots (a ++ b) = slots a ++ slots b := by simp [slots]
theorem slots_mem {l : List Cel} {z : Cel} (h : z ∈ l) : z.p ∈ slots l ∧ z.q ∈ slots l := by
  unfold slots
  exact ⟨List.mem_flatMap.2 ⟨z, h, by simp⟩, List.mem_flatMap.2 ⟨z, h, by simp⟩⟩
theorem slots_of {l : List Cel} {s : Option Addr × Nat × Nat} (h : s ∈ slots l) : ∃ z ∈ l, s = z.p ∨ s = z.q := by
  unfold slots at h
  obtain ⟨z, hz, hs⟩ := List.mem_flatMap.1 h
  exact ⟨z, hz, by simpa using hs⟩
def its (l : List Cel) : List It := l.map Cel.x
theorem its_append (a b : List Cel) : its (a ++ b) = its a ++ its b := by simp [its]
theorem its_length (a : List Cel) : (its a).length = a.length := by simp [its]
/-- A row of items; the row and all lists in it lie in blocks of the call's own, no two lists in the same. -/
structure OT (w : World) (base : Nat) (A : Option Addr) (n c : Nat) (zs : List Cel) : Prop where
  row : GC w base 48 4 A n c (itvs zs)
  each : ∀ z ∈ zs, GB w base z.p.1 z.p.2.1 z.p.2.2 z.x.k ∧ GB w base z.q.1 z.q.2.1 z.q.2.2 z.x.v
  inc : (slots zs).Pairwise Before
theorem OT.nil (w : World) (base : Nat) : OT w base none 0 0 [] := ⟨GC.nil _ _ _ _, (fun z h => by cases h), List.Pairwise.nil⟩
theorem OT.below {w w' : World} {base n c : Nat} {A : Option Addr} {zs : List Cel} (h : OT w base A n c zs) (hb : Below w.heap.size w w') : OT w' base A n c zs :=
  ⟨h.row.below hb, fun z hz => ⟨(h.each z hz).1.below hb, (h.each z hz).2.below hb⟩, h.inc⟩
theorem OT.lower {w : World} {base base' n c : Nat} {A : Option Addr} {zs : List Cel} (h : OT w base A n c zs) (hb : base' ≤ base) : OT w base' A n c zs :=
  ⟨GC.lower h.row hb, fun z hz => ⟨GC.lower (h.each z hz).1 hb, GC.lower (h.each z hz).2 hb⟩, h.inc⟩
theorem OT.n {w : World} {base n c : Nat} {A : Option Addr} {zs : List Cel} (h : OT w base A n c zs) : zs.length = n := by
  have := h.row.1; rw [itvs_length] at this; omega
theorem OT.read {w : World} {base n c : Nat} {A : Option Addr} {zs : List Cel} (h : OT w base A n c zs) : RT w A n c (itvs zs) (its zs) :=
  ⟨GC.read h.row, by rw [its_length, h.n], fun j x hj => by
    obtain ⟨z, hz, rfl⟩ : ∃ z, zs[j]? = some z ∧ z.x = x := by
      unfold its at hj
      rw [List.getElem?_map] at hj
      rcases hz : zs[j]? with _ | z
      · rw [hz] at hj; cases hj
      · rw [hz] at hj; cases hj; exact ⟨z, rfl, rfl⟩
    obtain ⟨e1, e2, e3, e4⟩ := itvs_get zs j z hz
    have hm := h.each z (List.mem_of_getElem? hz)
    exact ⟨z.p, z.q, e1, e2, e3, e4, hm.1.read, hm.2.read⟩⟩
theorem OT.lt {w : World} {base n c : Nat} {A : Option Addr} {zs : List Cel} (h : OT w base A n c zs) : ∀ s ∈ slots zs, ∀ a, s.1 = some a → a.block < w.heap.size ∧ base ≤ a.block := by
  intro s hs a e
  obtain ⟨z, hz, q⟩ := slots_of hs
  rcases q with rfl | rfl
  · exact (h.each z hz).1.lt a e
  · exact (h.each z hz).2.lt a e
/-- An item more. -/
theorem OT.push {w w' : World} {base n c lo g c2 : Nat} {A : Option Addr} {zs : List Cel} {z : Cel} (h : OT w base A n c zs) (hp : GB w lo z.p.1 z.p.2.1 z.p.2.2 z.x.k) (hq : GB w lo z.q.1 z.q.2.1 z.q.2.2 z.x.v)
    (hpq : Before z.p z.q) (hlo : ∀ s ∈ slots zs, ∀ a, s.1 = some a → a.block < lo) (hb : base ≤ lo) (gx : w.grownBy w' (A.map (·.block))) (o : OC w' 48 4 g (n + 1) c2 (itvs zs ++ itv z)) (hg : base ≤ g) :
    OT w' base (some ⟨g, 0, none⟩) (n + 1) c2 (zs ++ [z]) := by
  refine ⟨by rw [itvs_append, itvs_one']; exact GC.of o hg, ?_, ?_⟩
  · intro y hy
    rcases List.mem_append.1 hy with hy | hy
    · exact ⟨GC.apart (h.each y hy).1 h.row gx (by decide), GC.apart (h.each y hy).2 h.row gx (by decide)⟩
    · rw [List.mem_singleton] at hy
      subst hy
      exact ⟨GC.apart (GC.lower hp hb) h.row gx (by decide), GC.apart (GC.lower hq hb) h.row gx (by decide)⟩
  · rw [slots_append, List.pairwise_append]
    refine ⟨h.inc, ?_, ?_⟩
    · show [z.p, z.q].Pairwise Before
      simp only [List.pairwise_cons, List.mem_singleton, forall_eq, List.not_mem_nil, false_implies, implies_true, List.Pairwise.nil, and_true]
      exact hpq
    · intro s hs t ht a b ea eb
      have h1 := hlo s hs a ea
      have ht : t = z.p ∨ t = z.q := by simpa [slots] using ht
      rcases ht with rfl | rfl
      · have := (hp.lt b eb).2
        omega
      · have := (hq.lt b eb).2
        omega
theorem info_item : (Try.prog.info? 48).map (fun i => (i.zero, i.size, i.bytes)) = some (some (.agg #[.slice none 0 0, .slice none 0 0, .int .i64 0, .int .i64 0]), 4, 64) := by kernel_rfl
/-- append of one item. -/
theorem wpT_app {w : World} {ops : Array Oper} {rest : List Oper} {o : Oper} {a : Act} {Q : Exit → Act → World → Prop} (hgd : o.guard = none) (s x : Operand) (ho : o.op = .call { callee := .builtin .append, args := #[s, x], argTypes := #[22, 22] })
    (base : Nat) (A : Option Addr) (n c : Nat) (zs : List Cel) (hs : a.eval s = .slice A n c) (hown : GC w base 48 4 A n c (itvs zs))
    (ad : Addr) (z : Cel) (hx : a.eval x = .slice (some ad) 1 1) (hr : RC w 4 (some ad) 1 1 (itv z)) (hb : n + 1 ≤ 1000000) (hbase : base ≤ w.heap.size)
    (h : ∀ g' c' w', base ≤ g' → OC w' 48 4 g' (n + 1) c' (itvs zs ++ itv z) → w.grownBy w' (A.map (·.block)) → wpList Try.prog ops Q rest (a.put o.dst (.slice (some ⟨g', 0, none⟩) (n + 1) c')) w') :
    wpList Try.prog ops Q (o :: rest) a w := by
  obtain ⟨i0, hi, hz0, hz1, hz2⟩ := info_parts info_item
  exact wpG_app hgd s x 22 ho base 48 i0 _ 4 64 Try.underlying22 hi hz0 hz1 hz2 rfl (by decide) A n c (itvs zs) hs hown ad 1 1 (itv z) hx hr (itvs_one [z]) (by decide) (by omega) (by rw [maxLen_is]; omega) hbase h
/-- A new block of one item. -/
theorem it_cell (w : World) (z : Cel) : OC (w.alloc (.cells #[.slice z.p.1 z.p.2.1 z.p.2.2, .slice z.q.1 z.q.2.1 z.q.2.2, .int .i64 z.x.s, .int .i64 z.x.f] 48)) 48 4 w.heap.size 1 1 (itv z) :=
  OC.mk rfl _ (heap_alloc_new w _) (Nat.le_refl _) (by rw [maxLen_is]; omega) rfl rfl
theorem ItAt.new (w : World) (t : TypeId) (p q : Option Addr × Nat × Nat) (s f : Int) : ItAt (w.alloc (.cells #[.slice p.1 p.2.1 p.2.2, .slice q.1 q.2.1 q.2.2, .int .i64 s, .int .i64 f] t)) ⟨w.heap.size, 0, none⟩ p q s f := ⟨by simp, by simp, by simp, by simp⟩
theorem ItAt.below {w w' : World} {a : Addr} {p q : Option Addr × Nat × Nat} {s f : Int} (h : ItAt w a p q s f) (b : Below w.heap.size w w') : ItAt w' a p q s f :=
  ⟨(b.cell (World.block_lt_of_cell? w _ h.c0)).trans h.c0, (b.cell (World.block_lt_of_cell? w _ h.c1)).trans h.c1, (b.cell (World.block_lt_of_cell? w _ h.c2)).trans h.c2, (b.cell (World.block_lt_of_cell? w _ h.c3)).trans h.c3⟩
end Go.Proofs.Ytieoleiokjoccaa
