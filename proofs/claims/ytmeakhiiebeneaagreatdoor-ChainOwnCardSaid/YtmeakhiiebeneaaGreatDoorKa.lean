/- Words: lists that are kept (LS), and what they are grown to (GR), whatever their elements. -/
import Derived.Test.YtmeakhiiebeneaaGreatDoorM1
namespace Go.Proofs.YtmeakhiiebeneaaGreatDoor
open Go.RowKit

abbrev Slot := Option Addr × Nat × Nat
theorem gset (w : World) (g j : Nat) (v : Value) : w.grownBy (w.setCell ⟨g, j, none⟩ v) (some g) :=
  ⟨rfl, rfl, rfl, by simp [World.setCell], fun k _ hk => Below.heap_setCell w _ v k (by intro e; exact hk (by rw [e]))⟩
theorem cell_sm {w w' : World} {a : Addr} {v : Value} (h : w.cell? a = some v) (s : Sm w w' a.block) : w'.cell? a = some v := (World.cell?_of_block (w := w) s).trans h
theorem GC.lt {w : World} {base e sz n c : Nat} {A : Option Addr} {cs : List Value} (h : GC w base e sz A n c cs) (a : Addr) (q : A = some a) : a.block < w.heap.size ∧ base ≤ a.block := by
  rcases h.oc with ⟨rfl, _⟩ | ⟨g, rfl, hb, o⟩
  · cases q
  · cases q; exact ⟨o.lt, hb⟩
theorem GC.cell {w : World} {base e n c g : Nat} {cs : List Value} (h : GC w base e 1 (some ⟨g, 0, none⟩) n c cs) (j : Nat) (u : Value) (hu : cs[j]? = some u) : w.cell? ⟨g, j, none⟩ = some u := by
  rcases h.oc with ⟨e0, _⟩ | ⟨g0, e0, _, o⟩
  · cases e0
  · cases e0; exact OC.cell o j u hu
theorem GC.len {w : World} {base e sz n c : Nat} {A : Option Addr} {cs : List Value} (h : GC w base e sz A n c cs) : cs.length = n * sz := h.1
theorem GC.sm {w w' : World} {base e sz n c g : Nat} {A : Option Addr} {cs : List Value} (h : GC w base e sz A n c cs) (gx : w.grownBy w' (some g)) (hne : ∀ a, A = some a → a.block ≠ g) : GC w' base e sz A n c cs :=
  GC.same h fun ad q => Sm.of_grown gx (h.lt ad q).1 (by simp only [ne_eq, Option.some.injEq]; exact hne ad q)
theorem GC.sm0 {w w' : World} {base e sz n c : Nat} {A : Option Addr} {cs : List Value} (h : GC w base e sz A n c cs) (gx : w.grownBy w' none) : GC w' base e sz A n c cs :=
  GC.same h fun ad q => Sm.of_grown gx (h.lt ad q).1 (by simp)

/-! ### what is outside stays -/
/-- Of the blocks that there were only those in D may have changed. -/
structure Out (D : Nat → Prop) (w w' : World) : Prop where
  os : w'.os = w.os
  tape : w'.tape = w.tape
  output : w'.output = w.output
  size : w.heap.size ≤ w'.heap.size
  block : ∀ k, k < w.heap.size → ¬ D k → w'.heap[k]? = w.heap[k]?
theorem Out.refl (D : Nat → Prop) (w : World) : Out D w w := ⟨rfl, rfl, rfl, Nat.le_refl _, fun _ _ _ => rfl⟩
theorem Out.grow {D : Nat → Prop} {w0 w w' : World} {row : Option Nat} (h : Out D w0 w) (gx : w.grownBy w' row) (hr : ∀ g, row = some g → D g ∨ w0.heap.size ≤ g) : Out D w0 w' :=
  ⟨gx.os.trans h.os, gx.tape.trans h.tape, gx.output.trans h.output, Nat.le_trans h.size gx.size, fun k hk hd => (gx.block k (Nat.lt_of_lt_of_le hk h.size) (fun e => by
    rcases hr k e.symm with q | q
    · exact hd q
    · omega)).trans (h.block k hk hd)⟩
theorem Out.trans {D D' : Nat → Prop} {w0 w w' : World} (h : Out D w0 w) (h' : Out D' w w') (hd : ∀ g, D' g → D g ∨ w0.heap.size ≤ g) : Out D w0 w' :=
  ⟨h'.os.trans h.os, h'.tape.trans h.tape, h'.output.trans h.output, Nat.le_trans h.size h'.size, fun k hk hn => (h'.block k (Nat.lt_of_lt_of_le hk h.size) (fun q => by
    rcases hd k q with q | q
    · exact hn q
    · omega)).trans (h.block k hk hn)⟩
theorem Out.step {D : Nat → Prop} {w0 w w' : World} (h : Out D w0 w) (b : Below w.heap.size w w') : Out D w0 w' :=
  h.trans (D' := fun _ => False) ⟨b.os, b.tape, b.output, b.size, fun k hk _ => b.block k hk⟩ (fun _ q => q.elim)
theorem Out.drew {D : Nat → Prop} {w0 w : World} (h : Out D w0 w) : Out D w0 w.drew := ⟨h.os, h.tape, h.output, h.size, h.block⟩
theorem Out.of_below {D : Nat → Prop} {w w' : World} (b : Below w.heap.size w w') : Out D w w' := (Out.refl D w).step b
theorem Out.sm {D : Nat → Prop} {w w' : World} (h : Out D w w') {g : Nat} (hg : g < w.heap.size) (hd : ¬ D g) : Sm w w' g := h.block g hg hd
theorem Out.below {D : Nat → Prop} {w w' : World} {B : Nat} (h : Out D w w') (hB : B ≤ w.heap.size) (hd : ∀ g, D g → B ≤ g) : Below B w w' :=
  ⟨h.os, h.tape, h.output, h.size, fun k hk => h.block k (Nat.lt_of_lt_of_le hk hB) (fun q => by have := hd k q; omega)⟩
def InPs (ps : List Slot) (g : Nat) : Prop := ∃ p ∈ ps, ∃ a, p.1 = some a ∧ a.block = g
theorem InPs.at_ {ps : List Slot} {i g : Nat} {n c : Nat} (h : ps[i]? = some (some ⟨g, 0, none⟩, n, c)) : InPs ps g := ⟨_, List.mem_of_getElem? h, _, rfl, rfl⟩

/-! ### lists that are kept -/
structure LS (w : World) (base e sz rt : Nat) (A : Option Addr) (n c : Nat) (ps : List Slot) (css : List (List Value)) : Prop where
  row : GC w base rt 1 A n c (ps.map sv)
  len : ps.length = css.length
  each : ∀ (j : Nat) (p : Slot) (cs : List Value), ps[j]? = some p → css[j]? = some cs → GC w base e sz p.1 p.2.1 p.2.2 cs
  inc : ps.Pairwise Before
theorem LS.nil (w : World) (base e sz rt : Nat) : LS w base e sz rt none 0 0 [] [] := ⟨GC.nil _ _ _ _, rfl, fun j p cs h => by simp at h, List.Pairwise.nil⟩
theorem LS.below {w w' : World} {base e sz rt n c : Nat} {A : Option Addr} {ps : List Slot} {css : List (List Value)} (h : LS w base e sz rt A n c ps css) (hb : Below w.heap.size w w') : LS w' base e sz rt A n c ps css :=
  ⟨GC.below h.row hb, h.len, fun j p cs h1 h2 => GC.below (h.each j p cs h1 h2) hb, h.inc⟩
theorem LS.n {w : World} {base e sz rt n c : Nat} {A : Option Addr} {ps : List Slot} {css : List (List Value)} (h : LS w base e sz rt A n c ps css) : ps.length = n := by
  have := h.row.1; simpa using this
theorem LS.block {w : World} {base e sz rt n c : Nat} {A : Option Addr} {ps : List Slot} {css : List (List Value)} (h : LS w base e sz rt A n c ps css) (hn : 0 < n) : ∃ gr, A = some ⟨gr, 0, none⟩ ∧ base ≤ gr ∧ OC w rt 1 gr n c (ps.map sv) := by
  rcases GC.oc h.row with ⟨_, q, _⟩ | ⟨gr, e, gb, orow⟩
  · omega
  · exact ⟨gr, e, gb, orow⟩
/-- what stands at place i. -/
theorem LS.at_ {w : World} {base e sz rt n c : Nat} {A : Option Addr} {ps : List Slot} {css : List (List Value)} (h : LS w base e sz rt A n c ps css) (i : Nat) (hi : i < n) : ∃ gr p cs, A = some ⟨gr, 0, none⟩ ∧ OC w rt 1 gr n c (ps.map sv) ∧ ps[i]? = some p ∧ css[i]? = some cs ∧ w.cell? ⟨gr, i, none⟩ = some (.slice p.1 p.2.1 p.2.2) ∧ GC w base e sz p.1 p.2.1 p.2.2 cs := by
  obtain ⟨gr, e, gb, orow⟩ := h.block (by omega)
  have hl : i < ps.length := by rw [h.n]; exact hi
  obtain ⟨p, hp⟩ : ∃ p, ps[i]? = some p := ⟨_, List.getElem?_eq_getElem hl⟩
  obtain ⟨cs, hc⟩ : ∃ cs, css[i]? = some cs := ⟨_, List.getElem?_eq_getElem (by rw [← h.len]; exact hl)⟩
  exact ⟨gr, p, cs, e, orow, hp, hc, OC.cell orow i _ (by rw [List.getElem?_map, hp]; rfl), h.each i p cs hp hc⟩
theorem pair_ne {ps : List Slot} (h : ps.Pairwise Before) {i j : Nat} (hij : i ≠ j) {p q : Slot} (hp : ps[i]? = some p) (hq : ps[j]? = some q) : ∀ a b, p.1 = some a → q.1 = some b → a.block ≠ b.block := by
  have hpw := List.pairwise_iff_getElem.1 h
  obtain ⟨li, ei⟩ := List.getElem?_eq_some_iff.1 hp
  obtain ⟨lj, ej⟩ := List.getElem?_eq_some_iff.1 hq
  intro a b ha hb
  rcases Nat.lt_or_gt_of_ne hij with hl | hl
  · exact hpw i j li lj hl a b (by rw [ei]; exact ha) (by rw [ej]; exact hb)
  · exact fun e => hpw j i lj li hl b a (by rw [ej]; exact hb) (by rw [ei]; exact ha) e.symm
/-- A list more. -/
theorem LS.push {w w' : World} {base e sz rt n c n' c' g c2 : Nat} {A A' : Option Addr} {ps : List Slot} {css : List (List Value)} {cs : List Value} (h : LS w base e sz rt A n c ps css) (ne : e ≠ rt) (hp : GC w base e sz A' n' c' cs)
    (hne : ∀ p ∈ ps, ∀ a b, p.1 = some a → A' = some b → a.block ≠ b.block) (gx : w.grownBy w' (A.map (·.block))) (o : OC w' rt 1 g (n + 1) c2 (ps.map sv ++ [.slice A' n' c'])) (hg : base ≤ g) :
    LS w' base e sz rt (some ⟨g, 0, none⟩) (n + 1) c2 (ps ++ [(A', n', c')]) (css ++ [cs]) := by
  refine ⟨by rw [List.map_append]; exact GC.of o hg, by rw [List.length_append, List.length_append, h.len]; rfl, ?_, ?_⟩
  · intro j p ys h1 h2
    by_cases hj : j < ps.length
    · rw [List.getElem?_append_left hj] at h1
      rw [List.getElem?_append_left (by rw [← h.len]; exact hj)] at h2
      exact GC.apart (h.each j p ys h1 h2) h.row gx ne
    · rw [List.getElem?_append_right (by omega)] at h1
      rw [List.getElem?_append_right (by rw [← h.len]; omega), ← h.len] at h2
      have hj0 : j - ps.length = 0 := by
        have := (List.getElem?_eq_some_iff.1 h1).1
        simp at this; omega
      rw [hj0] at h1 h2
      simp at h1 h2
      subst h1 h2
      exact GC.apart hp h.row gx ne
  · rw [List.pairwise_append]
    refine ⟨h.inc, List.pairwise_singleton _ _, fun p hpm q hq => ?_⟩
    simp at hq
    subst hq
    exact fun a b ea eb => hne p hpm a b ea eb
/-- where neither the row nor a list of it is written, all stays. -/
theorem LS.other {w w' : World} {base e sz rt n c g : Nat} {A : Option Addr} {ps : List Slot} {css : List (List Value)} (h : LS w base e sz rt A n c ps css) (gx : w.grownBy w' (some g)) (h1 : ∀ a, A = some a → a.block ≠ g) (h2 : ∀ p ∈ ps, ∀ a, p.1 = some a → a.block ≠ g) : LS w' base e sz rt A n c ps css :=
  ⟨h.row.sm gx h1, h.len, fun j p cs k1 k2 => (h.each j p cs k1 k2).sm gx (h2 p (List.mem_of_getElem? k1)), h.inc⟩
/-- One cell of one list written anew. -/
theorem LS.turn {w : World} {base e sz rt n c : Nat} {A : Option Addr} {ps : List Slot} {css : List (List Value)} (h : LS w base e sz rt A n c ps css) (ne : e ≠ rt) (i q g nn cc : Nat) (cs : List Value) (u : Value) (hp : ps[i]? = some (some ⟨g, 0, none⟩, nn, cc)) (hs : css[i]? = some cs) :
    LS (w.setCell ⟨g, q, none⟩ u) base e sz rt A n c ps (css.set i (cs.set q u)) := by
  have hn : 0 < n := by have := (List.getElem?_eq_some_iff.1 hp).1; rw [h.n] at this; omega
  obtain ⟨gr, rfl, gb, orow⟩ := h.block hn
  rcases (h.each i _ cs hp hs).oc with ⟨e0, _⟩ | ⟨g0, e0, hg, o⟩
  · cases e0
  · cases e0
    have n1 : gr ≠ g := by
      rintro rfl
      exact ne (OC.tyy o orow)
    refine ⟨GC.same h.row (fun ad e => by cases e; exact Sm.setCell w _ _ n1), by rw [List.length_set]; exact h.len, ?_, h.inc⟩
    intro j p xs h1 h2
    rw [List.getElem?_set] at h2
    by_cases hij : i = j
    · subst hij
      rw [if_pos rfl] at h2
      split at h2
      · cases h2
        rw [hp] at h1
        cases h1
        exact GC.of (o.set q u) hg
      · cases h2
    · rw [if_neg hij] at h2
      exact GC.same (h.each j p xs h1 h2) fun ad ea => Sm.setCell w _ _ (fun eg => pair_ne h.inc hij hp h1 ⟨g, 0, none⟩ ad rfl ea eg.symm)
theorem LS.lt {w : World} {base e sz rt n c : Nat} {A : Option Addr} {ps : List Slot} {css : List (List Value)} (h : LS w base e sz rt A n c ps css) : ∀ p ∈ ps, ∀ a, p.1 = some a → a.block < w.heap.size ∧ base ≤ a.block := by
  intro p hp a ha
  obtain ⟨j, hj⟩ := List.getElem?_of_mem hp
  obtain ⟨cs, hc⟩ : ∃ cs, css[j]? = some cs := ⟨_, List.getElem?_eq_getElem (by rw [← h.len]; exact (List.getElem?_eq_some_iff.1 hj).1)⟩
  exact (h.each j p cs hj hc).lt a ha

/-! ### what they are grown to -/
/-- p is a list, q what it was grown to: in the same block, or p alone in its own. -/
structure Fam (w : World) (base e sz : Nat) (p q : Slot) (cs zs : List Value) : Prop where
  own : GC w base e sz q.1 q.2.1 q.2.2 zs
  tie : (p.1 = q.1 ∧ p.2.2 = q.2.2 ∧ p.2.1 ≤ q.2.1 ∧ cs = zs.take (p.2.1 * sz)) ∨ (GC w base e sz p.1 p.2.1 p.2.2 cs ∧ ∀ a b, p.1 = some a → q.1 = some b → a.block ≠ b.block)
theorem Fam.start {w : World} {base e sz : Nat} {p : Slot} {cs : List Value} (h : GC w base e sz p.1 p.2.1 p.2.2 cs) : Fam w base e sz p p cs cs :=
  ⟨h, Or.inl ⟨rfl, rfl, Nat.le_refl _, by rw [← h.len, List.take_length]⟩⟩
theorem GC.take {w : World} {base e sz n c : Nat} {A : Option Addr} {cs : List Value} (h : GC w base e sz A n c cs) (k : Nat) (hk : k ≤ n) : GC w base e sz A k c (cs.take (k * sz)) := by
  rcases h.oc with ⟨rfl, rfl, rfl, rfl⟩ | ⟨g, rfl, hb, o⟩
  · obtain rfl : k = 0 := by omega
    simpa using GC.nil w base e sz
  · exact GC.of (o.take k hk) hb
theorem Fam.old {w : World} {base e sz : Nat} {p q : Slot} {cs zs : List Value} (h : Fam w base e sz p q cs zs) : GC w base e sz p.1 p.2.1 p.2.2 cs := by
  rcases h.tie with ⟨e1, e2, e3, rfl⟩ | ⟨k, _⟩
  · have := h.own.take p.2.1 e3
    rw [← e1, ← e2] at this
    exact this
  · exact k
theorem Fam.keep {w w' : World} {base e sz : Nat} {p q : Slot} {cs zs : List Value} (h : Fam w base e sz p q cs zs) (s : ∀ a, (p.1 = some a ∨ q.1 = some a) → Sm w w' a.block) : Fam w' base e sz p q cs zs :=
  ⟨GC.same h.own fun a ha => s a (Or.inr ha), by
    rcases h.tie with k | ⟨k, hne⟩
    · exact Or.inl k
    · exact Or.inr ⟨GC.same k fun a ha => s a (Or.inl ha), hne⟩⟩
theorem Fam.lt {w : World} {base e sz : Nat} {p q : Slot} {cs zs : List Value} (h : Fam w base e sz p q cs zs) : ∀ a, (p.1 = some a ∨ q.1 = some a) → a.block < w.heap.size ∧ base ≤ a.block := by
  intro a ha
  rcases ha with ha | ha
  · exact h.old.lt a ha
  · exact h.own.lt a ha
/-- One element more: in the same block, or all in a new one. -/
theorem Fam.grow {w w' : World} {base e sz n c g' c' : Nat} {p : Slot} {A : Option Addr} {cs zs ys : List Value} (h : Fam w base e sz p (A, n, c) cs zs)
    (q : (∃ g, A = some ⟨g, 0, none⟩ ∧ g' = g ∧ c' = c ∧ w.grownBy w' (some g)) ∨ (w.heap.size ≤ g' ∧ w.grownBy w' none)) (o : OC w' e sz g' (n + 1) c' (zs ++ ys)) (hb : base ≤ w.heap.size) :
    Fam w' base e sz p (some ⟨g', 0, none⟩, n + 1, c') cs (zs ++ ys) := by
  have hz : zs.length = n * sz := h.own.len
  have hpre : p.2.1 ≤ n → (zs ++ ys).take (p.2.1 * sz) = zs.take (p.2.1 * sz) := fun hk => by
    rw [List.take_append_of_le_length]
    rw [hz]; exact Nat.mul_le_mul_right _ hk
  rcases q with ⟨g, rfl, rfl, rfl, k⟩ | ⟨hg, k⟩
  · have hbg := (h.own.lt _ rfl).2
    refine ⟨GC.of o hbg, ?_⟩
    rcases h.tie with ⟨e1, e2, e3, e4⟩ | ⟨old, hne⟩
    · exact Or.inl ⟨e1, e2, Nat.le_succ_of_le e3, by rw [hpre e3]; exact e4⟩
    · exact Or.inr ⟨old.sm k fun a ha => hne a _ ha rfl, hne⟩
  · refine ⟨GC.of o (Nat.le_trans hb hg), ?_⟩
    refine Or.inr ⟨h.old.sm0 k, fun a b ha hb' => ?_⟩
    cases hb'
    have := (h.old.lt a ha).1
    simp only
    omega

structure GR (w : World) (base e sz B2 : Nat) (ps qs : List Slot) (css zss : List (List Value)) : Prop where
  lp : ps.length = css.length
  lq : qs.length = ps.length
  lz : zss.length = ps.length
  fam : ∀ (j : Nat) (p q : Slot) (cs zs : List Value), ps[j]? = some p → qs[j]? = some q → css[j]? = some cs → zss[j]? = some zs → Fam w base e sz p q cs zs
  new : ∀ (j : Nat) (p q : Slot), ps[j]? = some p → qs[j]? = some q → ∀ b, q.1 = some b → B2 ≤ b.block ∨ p.1 = some b
  dis : ∀ (i j : Nat) (p q p' q' : Slot), i ≠ j → ps[i]? = some p → qs[i]? = some q → ps[j]? = some p' → qs[j]? = some q' → ∀ a b, (p.1 = some a ∨ q.1 = some a) → (p'.1 = some b ∨ q'.1 = some b) → a.block ≠ b.block
theorem GR.start {w : World} {base e sz rt n c : Nat} (B2 : Nat) {A : Option Addr} {ps : List Slot} {css : List (List Value)} (h : LS w base e sz rt A n c ps css) : GR w base e sz B2 ps ps css css :=
  ⟨h.len, rfl, h.len.symm, fun j p q cs zs h1 h2 h3 h4 => by
    rw [h1] at h2; cases h2
    rw [h3] at h4; cases h4
    exact Fam.start (h.each j p cs h1 h3),
   fun j p q h1 h2 b hb => by
    rw [h1] at h2; cases h2
    exact Or.inr hb,
   fun i j p q p' q' hij h1 h2 h3 h4 a b ha hb => by
    rw [h1] at h2; cases h2
    rw [h3] at h4; cases h4
    exact pair_ne h.inc hij h1 h3 a b (by rcases ha with k | k <;> exact k) (by rcases hb with k | k <;> exact k)⟩
theorem GR.keep {w w' : World} {base e sz B2 : Nat} {ps qs : List Slot} {css zss : List (List Value)} (h : GR w base e sz B2 ps qs css zss) (s : ∀ (j : Nat) (p q : Slot), ps[j]? = some p → qs[j]? = some q → ∀ a, (p.1 = some a ∨ q.1 = some a) → Sm w w' a.block) : GR w' base e sz B2 ps qs css zss :=
  ⟨h.lp, h.lq, h.lz, fun j p q cs zs h1 h2 h3 h4 => (h.fam j p q cs zs h1 h2 h3 h4).keep (s j p q h1 h2), h.new, h.dis⟩
theorem GR.zat {w : World} {base e sz B2 : Nat} {ps qs : List Slot} {css zss : List (List Value)} (h : GR w base e sz B2 ps qs css zss) (i : Nat) (hi : i < ps.length) : ∃ p q cs zs, ps[i]? = some p ∧ qs[i]? = some q ∧ css[i]? = some cs ∧ zss[i]? = some zs ∧ Fam w base e sz p q cs zs := by
  obtain ⟨p, h1⟩ : ∃ p, ps[i]? = some p := ⟨_, List.getElem?_eq_getElem hi⟩
  obtain ⟨q, h2⟩ : ∃ q, qs[i]? = some q := ⟨_, List.getElem?_eq_getElem (by rw [h.lq]; exact hi)⟩
  obtain ⟨cs, h3⟩ : ∃ cs, css[i]? = some cs := ⟨_, List.getElem?_eq_getElem (by rw [← h.lp]; exact hi)⟩
  obtain ⟨zs, h4⟩ : ∃ zs, zss[i]? = some zs := ⟨_, List.getElem?_eq_getElem (by rw [h.lz]; exact hi)⟩
  exact ⟨p, q, cs, zs, h1, h2, h3, h4, h.fam i p q cs zs h1 h2 h3 h4⟩
theorem GR.lt {w : World} {base e sz B2 : Nat} {ps qs : List Slot} {css zss : List (List Value)} (h : GR w base e sz B2 ps qs css zss) (j : Nat) (p q : Slot) (h1 : ps[j]? = some p) (h2 : qs[j]? = some q) : ∀ a, (p.1 = some a ∨ q.1 = some a) → a.block < w.heap.size ∧ base ≤ a.block := by
  obtain ⟨p', q', cs, zs, k1, k2, _, _, f⟩ := h.zat j (List.getElem?_eq_some_iff.1 h1).1
  rw [h1] at k1; cases k1
  rw [h2] at k2; cases k2
  exact f.lt
/-- what is written in blocks of another type, or in new ones, does not matter. -/
theorem GR.below {w w' : World} {base e sz B2 : Nat} {ps qs : List Slot} {css zss : List (List Value)} (h : GR w base e sz B2 ps qs css zss) (b : Below w.heap.size w w') : GR w' base e sz B2 ps qs css zss :=
  h.keep fun j p q h1 h2 a ha => Sm.of_below b (h.lt j p q h1 h2 a ha).1
theorem GR.apart {w w' : World} {base e sz B2 e' sz' g n' c' : Nat} {ps qs : List Slot} {css zss : List (List Value)} {cs' : List Value} (h : GR w base e sz B2 ps qs css zss) (gx : w.grownBy w' (some g)) (o : OC w e' sz' g n' c' cs') (ne : e ≠ e') : GR w' base e sz B2 ps qs css zss :=
  h.keep fun j p q h1 h2 a ha => by
    obtain ⟨p', q', cs, zs, k1, k2, _, _, f⟩ := h.zat j (List.getElem?_eq_some_iff.1 h1).1
    rw [h1] at k1; cases k1
    rw [h2] at k2; cases k2
    refine Sm.of_grown gx (f.lt a ha).1 ?_
    simp only [ne_eq, Option.some.injEq]
    rintro rfl
    have key : ∀ {A : Option Addr} {n c : Nat} {xs : List Value}, GC w base e sz A n c xs → A = some a → False := by
      intro A n c xs k ea
      rcases k.oc with ⟨e0, _⟩ | ⟨g0, e0, _, o0⟩
      · rw [ea] at e0; cases e0
      · rw [ea] at e0; cases e0
        exact ne (OC.tyy o0 o)
    rcases ha with ha | ha
    · exact key f.old ha
    · exact key f.own ha
theorem GR.grow {w w' : World} {base e sz B2 i n c g' c' : Nat} {ps qs : List Slot} {css zss : List (List Value)} {A : Option Addr} {zs ys : List Value} (h : GR w base e sz B2 ps qs css zss) (hq : qs[i]? = some (A, n, c)) (hz : zss[i]? = some zs)
    (k : (∃ g, A = some ⟨g, 0, none⟩ ∧ g' = g ∧ c' = c ∧ w.grownBy w' (some g)) ∨ (w.heap.size ≤ g' ∧ w.grownBy w' none)) (o : OC w' e sz g' (n + 1) c' (zs ++ ys)) (hb : base ≤ w.heap.size) (hB : B2 ≤ w.heap.size) :
    GR w' base e sz B2 ps (qs.set i (some ⟨g', 0, none⟩, n + 1, c')) css (zss.set i (zs ++ ys)) := by
  have hi : i < ps.length := by rw [← h.lq]; exact (List.getElem?_eq_some_iff.1 hq).1
  refine ⟨h.lp, by rw [List.length_set]; exact h.lq, by rw [List.length_set]; exact h.lz, ?_, ?_, ?_⟩
  · intro j p q cs zs' h1 h2 h3 h4
    rw [List.getElem?_set] at h2 h4
    by_cases hij : i = j
    · subst hij
      rw [if_pos rfl] at h2 h4
      split at h2
      · cases h2
        split at h4
        · cases h4
          exact (h.fam i p _ cs zs h1 hq h3 hz).grow k o hb
        · cases h4
      · cases h2
    · rw [if_neg hij] at h2 h4
      refine (h.fam j p q cs zs' h1 h2 h3 h4).keep fun a ha => ?_
      have hl := (h.lt j p q h1 h2 a ha).1
      rcases k with ⟨g, rfl, rfl, rfl, k⟩ | ⟨hg, k⟩
      · refine Sm.of_grown k hl ?_
        simp only [ne_eq, Option.some.injEq]
        obtain ⟨p0, hp0⟩ : ∃ p0, ps[i]? = some p0 := ⟨_, List.getElem?_eq_getElem hi⟩
        exact fun eg => h.dis i j p0 _ p q hij hp0 hq h1 h2 _ a (Or.inr rfl) ha eg.symm
      · exact Sm.of_grown k hl (by simp)
  · intro j p q h1 h2 b hb'
    rw [List.getElem?_set] at h2
    by_cases hij : i = j
    · subst hij
      rw [if_pos rfl] at h2
      split at h2
      · cases h2
        cases hb'
        rcases k with ⟨g, rfl, rfl, rfl, k⟩ | ⟨hg, k⟩
        · exact h.new i p _ h1 hq _ rfl
        · exact Or.inl (Nat.le_trans hB hg)
      · cases h2
    · rw [if_neg hij] at h2
      exact h.new j p q h1 h2 b hb'
  · have key : ∀ (j : Nat) (p0 p q : Slot), i ≠ j → ps[i]? = some p0 → ps[j]? = some p → qs[j]? = some q → ∀ a b, (p0.1 = some a ∨ some (⟨g', 0, none⟩ : Addr) = some a) → (p.1 = some b ∨ q.1 = some b) → a.block ≠ b.block := by
      intro j p0 p q hij hp0 h1 h2 a b ha hb'
      have hl := (h.lt j p q h1 h2 b hb').1
      rcases ha with ha | ha
      · exact h.dis i j p0 _ p q hij hp0 hq h1 h2 a b (Or.inl ha) hb'
      · cases ha
        rcases k with ⟨g, rfl, rfl, rfl, k⟩ | ⟨hg, k⟩
        · exact h.dis i j p0 _ p q hij hp0 hq h1 h2 _ b (Or.inr rfl) hb'
        · simp only
          omega
    intro i1 j1 p q p' q' hne h1 h2 h3 h4 a b ha hb'
    rw [List.getElem?_set] at h2 h4
    by_cases hi1 : i = i1
    · subst hi1
      rw [if_pos rfl] at h2
      split at h2
      · cases h2
        rw [if_neg hne] at h4
        exact key j1 p p' q' hne h1 h3 h4 a b ha hb'
      · cases h2
    · rw [if_neg hi1] at h2
      by_cases hj1 : i = j1
      · subst hj1
        rw [if_pos rfl] at h4
        split at h4
        · cases h4
          exact fun eg => key i1 p' p q hi1 h3 h1 h2 b a hb' ha eg.symm
        · cases h4
      · rw [if_neg hj1] at h4
        exact h.dis i1 j1 p q p' q' hne h1 h2 h3 h4 a b ha hb'

/-! ### rows that are read -/
structure RS (w : World) (sz : Nat) (A : Option Addr) (n c : Nat) (ps : List Slot) (css : List (List Value)) : Prop where
  row : RC w 1 A n c (ps.map sv)
  len : ps.length = css.length
  each : ∀ (j : Nat) (p : Slot) (cs : List Value), ps[j]? = some p → css[j]? = some cs → RC w sz p.1 p.2.1 p.2.2 cs
theorem LS.read {w : World} {base e sz rt n c : Nat} {A : Option Addr} {ps : List Slot} {css : List (List Value)} (h : LS w base e sz rt A n c ps css) : RS w sz A n c ps css :=
  ⟨GC.read h.row, h.len, fun j p cs h1 h2 => GC.read (h.each j p cs h1 h2)⟩
theorem GR.old {w : World} {base e sz B2 n c : Nat} {A : Option Addr} {ps qs : List Slot} {css zss : List (List Value)} (h : GR w base e sz B2 ps qs css zss) (r : RC w 1 A n c (ps.map sv)) : RS w sz A n c ps css :=
  ⟨r, h.lp, fun j p cs h1 h2 => by
    obtain ⟨p', q, cs', zs, k1, k2, k3, k4, f⟩ := h.zat j (List.getElem?_eq_some_iff.1 h1).1
    rw [h1] at k1; cases k1
    rw [h2] at k3; cases k3
    exact GC.read f.old⟩
theorem GR.now {w : World} {base e sz B2 n c : Nat} {A : Option Addr} {ps qs : List Slot} {css zss : List (List Value)} (h : GR w base e sz B2 ps qs css zss) (r : RC w 1 A n c (qs.map sv)) : RS w sz A n c qs zss :=
  ⟨r, by rw [h.lq, h.lz], fun j q zs h1 h2 => by
    obtain ⟨p, q', cs, zs', k1, k2, k3, k4, f⟩ := h.zat j (by rw [← h.lq]; exact (List.getElem?_eq_some_iff.1 h1).1)
    rw [h1] at k2; cases k2
    rw [h2] at k4; cases k4
    exact GC.read f.own⟩
theorem RS.at_ {w : World} {sz n c : Nat} {A : Option Addr} {ps : List Slot} {css : List (List Value)} (h : RS w sz A n c ps css) (i : Nat) (hi : i < n) : ∃ ad p cs, A = some ad ∧ ps[i]? = some p ∧ css[i]? = some cs ∧ w.cell? (ad.add i) = some (.slice p.1 p.2.1 p.2.2) ∧ RC w sz p.1 p.2.1 p.2.2 cs := by
  have hl : ps.length = n := by have := h.row.len; simpa using this
  obtain ⟨p, hp⟩ : ∃ p, ps[i]? = some p := ⟨_, List.getElem?_eq_getElem (by omega)⟩
  obtain ⟨cs, hc⟩ : ∃ cs, css[i]? = some cs := ⟨_, List.getElem?_eq_getElem (by rw [← h.len]; omega)⟩
  obtain ⟨ad, e, cell⟩ := RC.drop0 h.row (by omega)
  exact ⟨ad, p, cs, e, hp, hc, cell i _ (by rw [List.getElem?_map, hp]; rfl), h.each i p cs hp hc⟩
end Go.Proofs.YtmeakhiiebeneaaGreatDoor
