/- Words: lists that are kept (LS), and what they are grown to (GR), whatever their elements. -/
import Derived.Test.YtmeakhiiebeneaaGreatDoorM1
import Derived.Deep.QuietTactic
import Derived.BigQuiet
import Derived.BigRegion
import Derived.WalkLawsBesides
import Derived.Deep.CutRange
namespace Go.Proofs.YtmeakhiiebeneaaGreatDoor
open Go.RowKit

abbrev Slot := Option Addr × Nat × Nat
theorem gset (w : World) (g j : Nat) (v : Value) : w.grownBy (w.setCell ⟨g, j, none⟩ v) (some g) :=
  ⟨rfl, rfl, rfl, by simp [World.setCell], fun k _ hk => Below.heap_setCell w _ v k (by intro e; exact hk (by rw [e]))⟩
theorem cell_sm {w w' : World} {a : Addr} {v : Value} (h : w.cell? a = some v) (s : Sm w w' a.block) : w'.cell? a = some v := (World.cell?_of_block (w := w) s).trans h
theorem GC.lt {w : World} {base e sz n c : Nat} {A : Option Addr} {cs : List Value} (h : GC w base e sz A n c cs) (a : Addr) (q : A = some a) : a.block < w.heap.size ∧ base ≤ a.block := by
  rcases h.oc with ⟨rfl, _⟩ | ⟨g, rfl, hb, o⟩
  · cases q
  · cases q; exact ⟨o.lt, hb⟩
theorem GC.cell {w : World} {base e n c g : Nat} {cs : List Value} (h : GC w base e 1 (some ⟨g, 0, none⟩) n c cs) (j : Nat) (u : Value) (hu : cs[j]? = some u) : w.cell? ⟨g, j, none⟩ = some u := by
  rcases h.oc with ⟨e0, _⟩ | ⟨g0, e0, _, o⟩
  · cases e0
  · cases e0; exact OC.cell o j u hu
theorem GC.len {w : World} {base e sz n c : Nat} {A : Option Addr} {cs : List Value} (h : GC w base e sz A n c cs) : cs.length = n * sz := h.1
theorem GC.sm {w w' : World} {base e sz n c g : Nat} {A : Option Addr} {cs : List Value} (h : GC w base e sz A n c cs) (gx : w.grownBy w' (some g)) (hne : ∀ a, A = some a → a.block ≠ g) : GC w' base e sz A n c cs :=
  GC.same h fun ad q => Sm.of_grown gx (h.lt ad q).1 (by simp only [ne_eq, Option.some.injEq]; exact hne ad q)
theorem GC.sm0 {w w' : World} {base e sz n c : Nat} {A : Option Addr} {cs : List Value} (h : GC w base e sz A n c cs) (gx : w.grownBy w' none) : GC w' base e sz A n c cs :=
  GC.same h fun ad q => Sm.of_grown gx (h.lt ad q).1 (by simp)

/-! ### what is outside stays -/
/-- Of the blocks that there were only those in D may have changed. -/
structure Out (D : Nat → Prop) (w w' : World) : Prop where
  os : w'.os = w.os
  tape : w'.tape = w.tape
  output : w'.output = w.output
  size : w.heap.size ≤ w'.heap.size
  block : ∀ k, k < w.heap.size → ¬ D k → w'.heap[k]? = w.heap[k]?
theorem Out.refl (D : Nat → Prop) (w : World) : Out D w w := ⟨rfl, rfl, rfl, Nat.le_refl _, fun _ _ _ => rfl⟩
theorem Out.grow {D : Nat → Prop} {w0 w w' : World} {row : Option Nat} (h : Out D w0 w) (gx : w.grownBy w' row) (hr : ∀ g, row = some g → D g ∨ w0.heap.size ≤ g) : Out D w0 w' :=
  ⟨gx.os.trans h.os, gx.tape.trans h.tape, gx.output.trans h.output, Nat.le_trans h.size gx.size, fun k hk hd => (gx.block k (Nat.lt_of_lt_of_le hk h.size) (fun e => by
    rcases hr k e.symm with q | q
    · exact hd q
    · omega)).trans (h.block k hk hd)⟩
theorem Out.trans {D D' : Nat → Prop} {w0 w w' : World} (h : Out D w0 w) (h' : Out D' w w') (hd : ∀ g, D' g → D g ∨ w0.heap.size ≤ g) : Out D w0 w' :=
  ⟨h'.os.trans h.os, h'.tape.trans h.tape, h'.output.trans h.output, Nat.le_trans h.size h'.size, fun k hk hn => (h'.block k (Nat.lt_of_lt_of_le hk h.size) (fun q => by
    rcases hd k q with q | q
    · exact hn q
    · omega)).trans (h.block k hk hn)⟩
theorem Out.step {D : Nat → Prop} {w0 w w' : World} (h : Out D w0 w) (b : Below w.heap.size w w') : Out D w0 w' :=
  h.trans (D' := fun _ => False) ⟨b.os, b.tape, b.output, b.size, fun k hk _ => b.block k hk⟩ (fun _ q => q.elim)
theorem Out.drew {D : Nat → Prop} {w0 w : World} (h : Out D w0 w) : Out D w0 w.drew := ⟨h.os, h.tape, h.output, h.size, h.block⟩
theorem Out.of_below {D : Nat → Prop} {w w' : World} (b : Below w.heap.size w w') : Out D w w' := (Out.refl D w).step b
theorem Out.sm {D : Nat → Prop} {w w' : World} (h : Out D w w') {g : Nat} (hg : g < w.heap.size) (hd : ¬ D g) : Sm w w' g := h.block g hg hd
theorem Out.below {D : Nat → Prop} {w w' : World} {B : Nat} (h : Out D w w') (hB : B ≤ w.heap.size) (hd : ∀ g, D g → B ≤ g) : Below B w w' :=
  ⟨h.os, h.tape, h.output, h.size, fun k hk => h.block k (Nat.lt_of_lt_of_le hk hB) (fun q => by have := hd k q; omega)⟩
def InPs (ps : List Slot) (g : Nat) : Prop := ∃ p ∈ ps, ∃ a, p.1 = some a ∧ a.block = g
theorem InPs.at_ {ps : List Slot} {i g : Nat} {n c : Nat} (h : ps[i]? = some (some ⟨g, 0, none⟩, n, c)) : InPs ps g := ⟨_, List.mem_of_getElem? h, _, rfl, rfl⟩

/-! ### lists that are kept -/
structure LS (w : World) (base e sz rt : Nat) (A : Option Addr) (n c : Nat) (ps : List Slot) (css : List (List Value)) : Prop where
  row : GC w base rt 1 A n c (ps.map sv)
  len : ps.length = css.length
  each : ∀ (j : Nat) (p : Slot) (cs : List Value), ps[j]? = some p → css[j]? = some cs → GC w base e sz p.1 p.2.1 p.2.2 cs
  inc : ps.Pairwise Before
theorem LS.nil (w : World) (base e sz rt : Nat) : LS w base e sz rt none 0 0 [] [] := ⟨GC.nil _ _ _ _, rfl, fun j p cs h => by simp at h, List.Pairwise.nil⟩
theorem LS.below {w w' : World} {base e sz rt n c : Nat} {A : Option Addr} {ps : List Slot} {css : List (List Value)} (h : LS w base e sz rt A n c ps css) (hb : Below w.heap.size w w') : LS w' base e sz rt A n c ps css :=
  ⟨GC.below h.row hb, h.len, fun j p cs h1 h2 => GC.below (h.each j p cs h1 h2) hb, h.inc⟩
theorem LS.n {w : World} {base e sz rt n c : Nat} {A : Option Addr} {ps : List Slot} {css : List (List Value)} (h : LS w base e sz rt A n c ps css) : ps.length = n := by
  have := h.row.1; simpa using this
theorem LS.block {w : World} {base e sz rt n c : Nat} {A : Option Addr} {ps : List Slot} {css : List (List Value)} (h : LS w base e sz rt A n c ps css) (hn : 0 < n) : ∃ gr, A = some ⟨gr, 0, none⟩ ∧ base ≤ gr ∧ OC w rt 1 gr n c (ps.map sv) := by
  rcases GC.oc h.row with ⟨_, q, _⟩ | ⟨gr, e, gb, orow⟩
  · omega
  · exact ⟨gr, e, gb, orow⟩
/-- what stands at place i. -/
theorem LS.at_ {w : World} {base e sz rt n c : Nat} {A : Option Addr} {ps : List Slot} {css : List (List Value)} (h : LS w base e sz rt A n c ps css) (i : Nat) (hi : i < n) : ∃ gr p cs, A = some ⟨gr, 0, none⟩ ∧ OC w rt 1 gr n c (ps.map sv) ∧ ps[i]? = some p ∧ css[i]? = some cs ∧ w.cell? ⟨gr, i, none⟩ = some (.slice p.1 p.2.1 p.2.2) ∧ GC w base e sz p.1 p.2.1 p.2.2 cs := by
  obtain ⟨gr, e, gb, orow⟩ := h.block (by omega)
  have hl : i < ps.length := by rw [h.n]; exact hi
  obtain ⟨p, hp⟩ : ∃ p, ps[i]? = some p := ⟨_, List.getElem?_eq_getElem hl⟩
  obtain ⟨cs, hc⟩ : ∃ cs, css[i]? = some cs := ⟨_, List.getElem?_eq_getElem (by rw [← h.len]; exact hl)⟩
  exact ⟨gr, p, cs, e, orow, hp, hc, OC.cell orow i _ (by rw [List.getElem?_map, hp]; rfl), h.each i p cs hp hc⟩
theorem pair_ne {ps : List Slot} (h : ps.Pairwise Before) {i j : Nat} (hij : i ≠ j) {p q : Slot} (hp : ps[i]? = some p) (hq : ps[j]? = some q) : ∀ a b, p.1 = some a → q.1 = some b → a.block ≠ b.block := by
  have hpw := List.pairwise_iff_getElem.1 h
  obtain ⟨li, ei⟩ := List.getElem?_eq_some_iff.1 hp
  obtain ⟨lj, ej⟩ := List.getElem?_eq_some_iff.1 hq
  intro a b ha hb
  rcases Nat.lt_or_gt_of_ne hij with hl | hl
  · exact hpw i j li lj hl a b (by rw [ei]; exact ha) (by rw [ej]; exact hb)
  · exact fun e => hpw j i lj li hl b a (by rw [ej]; exact hb) (by rw [ei]; exact ha) e.symm
/-- A list more. -/
theorem LS.push {w w' : World} {base e sz rt n c n' c' g c2 : Nat} {A A' : Option Addr} {ps : List Slot} {css : List (List Value)} {cs : List Value} (h : LS w base e sz rt A n c ps css) (ne : e ≠ rt) (hp : GC w base e sz A' n' c' cs)
    (hne : ∀ p ∈ ps, ∀ a b, p.1 = some a → A' = some b → a.block ≠ b.block) (gx : w.grownBy w' (A.map (·.block))) (o : OC w' rt 1 g (n + 1) c2 (ps.map sv ++ [.slice A' n' c'])) (hg : base ≤ g) :
    LS w' base e sz rt (some ⟨g, 0, none⟩) (n + 1) c2 (ps ++ [(A', n', c')]) (css ++ [cs]) := by
  refine ⟨by rw [List.map_append]; exact GC.of o hg, by rw [List.length_append, List.length_append, h.len]; rfl, ?_, ?_⟩
  · intro j p ys h1 h2
    by_cases hj : j < ps.length
    · rw [List.getElem?_append_left hj] at h1
      rw [List.getElem?_append_left (by rw [← h.len]; exact hj)] at h2
      exact GC.apart (h.each j p ys h1 h2) h.row gx ne
    · rw [List.getElem?_append_right (by omega)] at h1
      rw [List.getElem?_append_right (by rw [← h.len]; omega), ← h.len] at h2
      have hj0 : j - ps.length = 0 := by
        have := (List.getElem?_eq_some_iff.1 h1).1
        simp at this; omega
      rw [hj0] at h1 h2
      simp at h1 h2
      subst h1 h2
      exact GC.apart hp h.row gx ne
  · rw [List.pairwise_append]
    refine ⟨h.inc, List.pairwise_singleton _ _, fun p hpm q hq => ?_⟩
    simp at hq
    subst hq
    exact fun a b ea eb => hne p hpm a b ea eb
/-- where neither the row nor a list of it is written, all stays. -/
theorem LS.other {w w' : World} {base e sz rt n c g : Nat} {A : Option Addr} {ps : List Slot} {css : List (List Value)} (h : LS w base e sz rt A n c ps css) (gx : w.grownBy w' (some g)) (h1 : ∀ a, A = some a → a.block ≠ g) (h2 : ∀ p ∈ ps, ∀ a, p.1 = some a → a.block ≠ g) : LS w' base e sz rt A n c ps css :=
  ⟨h.row.sm gx h1, h.len, fun j p cs k1 k2 => (h.each j p cs k1 k2).sm gx (h2 p (List.mem_of_getElem? k1)), h.inc⟩
/-- One cell of one list written anew. -/
theorem LS.turn {w : World} {base e sz rt n c : Nat} {A : Option Addr} {ps : List Slot} {css : List (List Value)} (h : LS w base e sz rt A n c ps css) (ne : e ≠ rt) (i q g nn cc : Nat) (cs : List Value) (u : Value) (hp : ps[i]? = some (some ⟨g, 0, none⟩, nn, cc)) (hs : css[i]? = some cs) :
    LS (w.setCell ⟨g, q, none⟩ u) base e sz rt A n c ps (css.set i (cs.set q u)) := by
  have hn : 0 < n := by have := (List.getElem?_eq_some_iff.1 hp).1; rw [h.n] at this; omega
  obtain ⟨gr, rfl, gb, orow⟩ := h.block hn
  rcases (h.each i _ cs hp hs).oc with ⟨e0, _⟩ | ⟨g0, e0, hg, o⟩
  · cases e0
  · cases e0
    have n1 : gr ≠ g := by
      rintro rfl
      exact ne (OC.tyy o orow)
    refine ⟨GC.same h.row (fun ad e => by cases e; exact Sm.setCell w _ _ n1), by rw [List.length_set]; exact h.len, ?_, h.inc⟩
    intro j p xs h1 h2
    rw [List.getElem?_set] at h2
    by_cases hij : i = j
    · subst hij
      rw [if_pos rfl] at h2
      split at h2
      · cases h2
        rw [hp] at h1
        cases h1
        exact GC.of (o.set q u) hg
      · cases h2
    · rw [if_neg hij] at h2
      exact GC.same (h.each j p xs h1 h2) fun ad ea => Sm.setCell w _ _ (fun eg => pair_ne h.inc hij hp h1 ⟨g, 0, none⟩ ad rfl ea eg.symm)
theorem LS.lt {w : World} {base e sz rt n c : Nat} {A : Option Addr} {ps : List Slot} {css : List (List Value)} (h : LS w base e sz rt A n c ps css) : ∀ p ∈ ps, ∀ a, p.1 = some a → a.block < w.heap.size ∧ base ≤ a.block := by
  intro p hp a ha
  obtain ⟨j, hj⟩ := List.getElem?_of_mem hp
  obtain ⟨cs, hc⟩ : ∃ cs, css[j]? = some cs := ⟨_, List.getElem?_eq_getElem (by rw [← h.len]; exact (List.getElem?_eq_some_iff.1 hj).1)⟩
  exact (h.each j p cs hj hc).lt a ha

/-! ### what they are grown to -/
/-- p is a list, q what it was grown to: in the same block, or p alone in its own. -/
structure Fam (w : World) (base e sz : Nat) (p q : Slot) (cs zs : List Value) : Prop where
  own : GC w base e sz q.1 q.2.1 q.2.2 zs
  tie : (p.1 = q.1 ∧ p.2.2 = q.2.2 ∧ p.2.1 ≤ q.2.1 ∧ cs = zs.take (p.2.1 * sz)) ∨ (GC w base e sz p.1 p.2.1 p.2.2 cs ∧ ∀ a b, p.1 = some a → q.1 = some b → a.block ≠ b.block)
theorem Fam.start {w : World} {base e sz : Nat} {p : Slot} {cs : List Value} (h : GC w base e sz p.1 p.2.1 p.2.2 cs) : Fam w base e sz p p cs cs :=
  ⟨h, Or.inl ⟨rfl, rfl, Nat.le_refl _, by rw [← h.len, List.take_length]⟩⟩
theorem GC.take {w : World} {base e sz n c : Nat} {A : Option Addr} {cs : List Value} (h : GC w base e sz A n c cs) (k : Nat) (hk : k ≤ n) : GC w base e sz A k c (cs.take (k * sz)) := by
  rcases h.oc with ⟨rfl, rfl, rfl, rfl⟩ | ⟨g, rfl, hb, o⟩
  · obtain rfl : k = 0 := by omega
    simpa using GC.nil w base e sz
  · exact GC.of (o.take k hk) hb
theorem Fam.old {w : World} {base e sz : Nat} {p q : Slot} {cs zs : List Value} (h : Fam w base e sz p q cs zs) : GC w base e sz p.1 p.2.1 p.2.2 cs := by
  rcases h.tie with ⟨e1, e2, e3, rfl⟩ | ⟨k, _⟩
  · have := h.own.take p.2.1 e3
    rw [← e1, ← e2] at this
    exact this
  · exact k
theorem Fam.keep {w w' : World} {base e sz : Nat} {p q : Slot} {cs zs : List Value} (h : Fam w base e sz p q cs zs) (s : ∀ a, (p.1 = some a ∨ q.1 = some a) → Sm w w' a.block) : Fam w' base e sz p q cs zs :=
  ⟨GC.same h.own fun a ha => s a (Or.inr ha), by
    rcases h.tie with k | ⟨k, hne⟩
    · exact Or.inl k
    · exact Or.inr ⟨GC.same k fun a ha => s a (Or.inl ha), hne⟩⟩
theorem Fam.lt {w : World} {base e sz : Nat} {p q : Slot} {cs zs : List Value} (h : Fam w base e sz p q cs zs) : ∀ a, (p.1 = some a ∨ q.1 = some a) → a.block < w.heap.size ∧ base ≤ a.block := by
  intro a ha
  rcases ha with ha | ha
  · exact h.old.lt a ha
  · exact h.own.lt a ha
/-- One element more: in the same block, or all in a new one. -/
theorem Fam.grow {w w' : World} {base e sz n c g' c' : Nat} {p : Slot} {A : Option Addr} {cs zs ys : List Value} (h : Fam w base e sz p (A, n, c) cs zs)
    (q : (∃ g, A = some ⟨g, 0, none⟩ ∧ g' = g ∧ c' = c ∧ w.grownBy w' (some g)) ∨ (w.heap.size ≤ g' ∧ w.grownBy w' none)) (o : OC w' e sz g' (n + 1) c' (zs ++ ys)) (hb : base ≤ w.heap.size) :
    Fam w' base e sz p (some ⟨g', 0, none⟩, n + 1, c') cs (zs ++ ys) := by
  have hz : zs.length = n * sz := h.own.len
  have hpre : p.2.1 ≤ n → (zs ++ ys).take (p.2.1 * sz) = zs.take (p.2.1 * sz) := fun hk => by
    rw [List.take_append_of_le_length]
    rw [hz]; exact Nat.mul_le_mul_right _ hk
  rcases q with ⟨g, rfl, rfl, rfl, k⟩ | ⟨hg, k⟩
  · have hbg := (h.own.lt _ rfl).2
    refine ⟨GC.of o hbg, ?_⟩
    rcases h.tie with ⟨e1, e2, e3, e4⟩ | ⟨old, hne⟩
    · exact Or.inl ⟨e1, e2, Nat.le_succ_of_le e3, by rw [hpre e3]; exact e4⟩
    · exact Or.inr ⟨old.sm k fun a ha => hne a _ ha rfl, hne⟩
  · refine ⟨GC.of o (Nat.le_trans hb hg), ?_⟩
    refine Or.inr ⟨h.old.sm0 k, fun a b ha hb' => ?_⟩
    cases hb'
    have := (h.old.lt a ha).1
    simp only
    omega

structure GR (w : World) (base e sz B2 : Nat) (ps qs : List Slot) (css zss : List (List Value)) : Prop where
  lp : ps.length = css.length
  lq : qs.length = ps.length
  lz : zss.length = ps.length
  fam : ∀ (j : Nat) (p q : Slot) (cs zs : List Value), ps[j]? = some p → qs[j]? = some q → css[j]? = some cs → zss[j]? = some zs → Fam w base e sz p q cs zs
  new : ∀ (j : Nat) (p q : Slot), ps[j]? = some p → qs[j]? = some q → ∀ b, q.1 = some b → B2 ≤ b.block ∨ p.1 = some b
  dis : ∀ (i j : Nat) (p q p' q' : Slot), i ≠ j → ps[i]? = some p → qs[i]? = some q → ps[j]? = some p' → qs[j]? = some q' → ∀ a b, (p.1 = some a ∨ q.1 = some a) → (p'.1 = some b ∨ q'.1 = some b) → a.block ≠ b.block
theorem GR.start {w : World} {base e sz rt n c : Nat} (B2 : Nat) {A : Option Addr} {ps : List Slot} {css : List (List Value)} (h : LS w base e sz rt A n c ps css) : GR w base e sz B2 ps ps css css :=
  ⟨h.len, rfl, h.len.symm, fun j p q cs zs h1 h2 h3 h4 => by
    rw [h1] at h2; cases h2
    rw [h3] at h4; cases h4
    exact Fam.start (h.each j p cs h1 h3),
   fun j p q h1 h2 b hb => by
    rw [h1] at h2; cases h2
    exact Or.inr hb,
   fun i j p q p' q' hij h1 h2 h3 h4 a b ha hb => by
    rw [h1] at h2; cases h2
    rw [h3] at h4; cases h4
    exact pair_ne h.inc hij h1 h3 a b (by rcases ha with k | k <;> exact k) (by rcases hb with k | k <;> exact k)⟩
theorem GR.keep {w w' : World} {base e sz B2 : Nat} {ps qs : List Slot} {css zss : List (List Value)} (h : GR w base e sz B2 ps qs css zss) (s : ∀ (j : Nat) (p q : Slot), ps[j]? = some p → qs[j]? = some q → ∀ a, (p.1 = some a ∨ q.1 = some a) → Sm w w' a.block) : GR w' base e sz B2 ps qs css zss :=
  ⟨h.lp, h.lq, h.lz, fun j p q cs zs h1 h2 h3 h4 => (h.fam j p q cs zs h1 h2 h3 h4).keep (s j p q h1 h2), h.new, h.dis⟩
theorem GR.zat {w : World} {base e sz B2 : Nat} {ps qs : List Slot} {css zss : List (List Value)} (h : GR w base e sz B2 ps qs css zss) (i : Nat) (hi : i < ps.length) : ∃ p q cs zs, ps[i]? = some p ∧ qs[i]? = some q ∧ css[i]? = some cs ∧ zss[i]? = some zs ∧ Fam w base e sz p q cs zs := by
  obtain ⟨p, h1⟩ : ∃ p, ps[i]? = some p := ⟨_, List.getElem?_eq_getElem hi⟩
  obtain ⟨q, h2⟩ : ∃ q, qs[i]? = some q := ⟨_, List.getElem?_eq_getElem (by rw [h.lq]; exact hi)⟩
  obtain ⟨cs, h3⟩ : ∃ cs, css[i]? = some cs := ⟨_, List.getElem?_eq_getElem (by rw [← h.lp]; exact hi)⟩
  obtain ⟨zs, h4⟩ : ∃ zs, zss[i]? = some zs := ⟨_, List.getElem?_eq_getElem (by rw [h.lz]; exact hi)⟩
  exact ⟨p, q, cs, zs, h1, h2, h3, h4, h.fam i p q cs zs h1 h2 h3 h4⟩
theorem GR.lt {w : World} {base e sz B2 : Nat} {ps qs : List Slot} {css zss : List (List Value)} (h : GR w base e sz B2 ps qs css zss) (j : Nat) (p q : Slot) (h1 : ps[j]? = some p) (h2 : qs[j]? = some q) : ∀ a, (p.1 = some a ∨ q.1 = some a) → a.block < w.heap.size ∧ base ≤ a.block := by
  obtain ⟨p', q', cs, zs, k1, k2, _, _, f⟩ := h.zat j (List.getElem?_eq_some_iff.1 h1).1
  rw [h1] at k1; cases k1
  rw [h2] at k2; cases k2
  exact f.lt
/-- what is written in blocks of another type, or in new ones, does not matter. -/
theorem GR.below {w w' : World} {base e sz B2 : Nat} {ps qs : List Slot} {css zss : List (List Value)} (h : GR w base e sz B2 ps qs css zss) (b : Below w.heap.size w w') : GR w' base e sz B2 ps qs css zss :=
  h.keep fun j p q h1 h2 a ha => Sm.of_below b (h.lt j p q h1 h2 a ha).1
theorem GR.apart {w w' : World} {base e sz B2 e' sz' g n' c' : Nat} {ps qs : List Slot} {css zss : List (List Value)} {cs' : List Value} (h : GR w base e sz B2 ps qs css zss) (gx : w.grownBy w' (some g)) (o : OC w e' sz' g n' c' cs') (ne : e ≠ e') : GR w' base e sz B2 ps qs css zss :=
  h.keep fun j p q h1 h2 a ha => by
    obtain ⟨p', q', cs, zs, k1, k2, _, _, f⟩ := h.zat j (List.getElem?_eq_some_iff.1 h1).1
    rw [h1] at k1; cases k1
    rw [h2] at k2; cases k2
    refine Sm.of_grown gx (f.lt a ha).1 ?_
    simp only [ne_eq, Option.some.injEq]
    rintro rfl
    have key : ∀ {A : Option Addr} {n c : Nat} {xs : List Value}, GC w base e sz A n c xs → A = some a → False := by
      intro A n c xs k ea
      rcases k.oc with ⟨e0, _⟩ | ⟨g0, e0, _, o0⟩
      · rw [ea] at e0; cases e0
      · rw [ea] at e0; cases e0
        exact ne (OC.tyy o0 o)
    rcases ha with ha | ha
    · exact key f.old ha
    · exact key f.own ha
theorem GR.grow {w w' : World} {base e sz B2 i n c g' c' : Nat} {ps qs : List Slot} {css zss : List (List Value)} {A : Option Addr} {zs ys : List Value} (h : GR w base e sz B2 ps qs css zss) (hq : qs[i]? = some (A, n, c)) (hz : zss[i]? = some zs)
    (k : (∃ g, A = some ⟨g, 0, none⟩ ∧ g' = g ∧ c' = c ∧ w.grownBy w' (some g)) ∨ (w.heap.size ≤ g' ∧ w.grownBy w' none)) (o : OC w' e sz g' (n + 1) c' (zs ++ ys)) (hb : base ≤ w.heap.size) (hB : B2 ≤ w.heap.size) :
    GR w' base e sz B2 ps (qs.set i (some ⟨g', 0, none⟩, n + 1, c')) css (zss.set i (zs ++ ys)) := by
  have hi : i < ps.length := by rw [← h.lq]; exact (List.getElem?_eq_some_iff.1 hq).1
  refine ⟨h.lp, by rw [List.length_set]; exact h.lq, by rw [List.length_set]; exact h.lz, ?_, ?_, ?_⟩
  · intro j p q cs zs' h1 h2 h3 h4
    rw [List.getElem?_set] at h2 h4
    by_cases hij : i = j
    · subst hij
      rw [if_pos rfl] at h2 h4
      split at h2
      · cases h2
        split at h4
        · cases h4
          exact (h.fam i p _ cs zs h1 hq h3 hz).grow k o hb
        · cases h4
      · cases h2
    · rw [if_neg hij] at h2 h4
      refine (h.fam j p q cs zs' h1 h2 h3 h4).keep fun a ha => ?_
      have hl := (h.lt j p q h1 h2 a ha).1
      rcases k with ⟨g, rfl, rfl, rfl, k⟩ | ⟨hg, k⟩
      · refine Sm.of_grown k hl ?_
        simp only [ne_eq, Option.some.injEq]
        obtain ⟨p0, hp0⟩ : ∃ p0, ps[i]? = some p0 := ⟨_, List.getElem?_eq_getElem hi⟩
        exact fun eg => h.dis i j p0 _ p q hij hp0 hq h1 h2 _ a (Or.inr rfl) ha eg.symm
      · exact Sm.of_grown k hl (by simp)
  · intro j p q h1 h2 b hb'
    rw [List.getElem?_set] at h2
    by_cases hij : i = j
    · subst hij
      rw [if_pos rfl] at h2
      split at h2
      · cases h2
        cases hb'
        rcases k with ⟨g, rfl, rfl, rfl, k⟩ | ⟨hg, k⟩
        · exact h.new i p _ h1 hq _ rfl
        · exact Or.inl (Nat.le_trans hB hg)
      · cases h2
    · rw [if_neg hij] at h2
      exact h.new j p q h1 h2 b hb'
  · have key : ∀ (j : Nat) (p0 p q : Slot), i ≠ j → ps[i]? = some p0 → ps[j]? = some p → qs[j]? = some q → ∀ a b, (p0.1 = some a ∨ some (⟨g', 0, none⟩ : Addr) = some a) → (p.1 = some b ∨ q.1 = some b) → a.block ≠ b.block := by
      intro j p0 p q hij hp0 h1 h2 a b ha hb'
      have hl := (h.lt j p q h1 h2 b hb').1
      rcases ha with ha | ha
      · exact h.dis i j p0 _ p q hij hp0 hq h1 h2 a b (Or.inl ha) hb'
      · cases ha
        rcases k with ⟨g, rfl, rfl, rfl, k⟩ | ⟨hg, k⟩
        · exact h.dis i j p0 _ p q hij hp0 hq h1 h2 _ b (Or.inr rfl) hb'
        · simp only
          omega
    intro i1 j1 p q p' q' hne h1 h2 h3 h4 a b ha hb'
    rw [List.getElem?_set] at h2 h4
    by_cases hi1 : i = i1
    · subst hi1
      rw [if_pos rfl] at h2
      split at h2
      · cases h2
        rw [if_neg hne] at h4
        exact key j1 p p' q' hne h1 h3 h4 a b ha hb'
      · cases h2
    · rw [if_neg hi1] at h2
      by_cases hj1 : i = j1
      · subst hj1
        rw [if_pos rfl] at h4
        split at h4
        · cases h4
          exact fun eg => key i1 p' p q hi1 h3 h1 h2 b a hb' ha eg.symm
        · cases h4
      · rw [if_neg hj1] at h4
        exact h.dis i1 j1 p q p' q' hne h1 h2 h3 h4 a b ha hb'

/-! ### rows that are read -/
structure RS (w : World) (sz : Nat) (A : Option Addr) (n c : Nat) (ps : List Slot) (css : List (List Value)) : Prop where
  row : RC w 1 A n c (ps.map sv)
  len : ps.length = css.length
  each : ∀ (j : Nat) (p : Slot) (cs : List Value), ps[j]? = some p → css[j]? = some cs → RC w sz p.1 p.2.1 p.2.2 cs
theorem LS.read {w : World} {base e sz rt n c : Nat} {A : Option Addr} {ps : List Slot} {css : List (List Value)} (h : LS w base e sz rt A n c ps css) : RS w sz A n c ps css :=
  ⟨GC.read h.row, h.len, fun j p cs h1 h2 => GC.read (h.each j p cs h1 h2)⟩
theorem GR.old {w : World} {base e sz B2 n c : Nat} {A : Option Addr} {ps qs : List Slot} {css zss : List (List Value)} (h : GR w base e sz B2 ps qs css zss) (r : RC w 1 A n c (ps.map sv)) : RS w sz A n c ps css :=
  ⟨r, h.lp, fun j p cs h1 h2 => by
    obtain ⟨p', q, cs', zs, k1, k2, k3, k4, f⟩ := h.zat j (List.getElem?_eq_some_iff.1 h1).1
    rw [h1] at k1; cases k1
    rw [h2] at k3; cases k3
    exact GC.read f.old⟩
theorem GR.now {w : World} {base e sz B2 n c : Nat} {A : Option Addr} {ps qs : List Slot} {css zss : List (List Value)} (h : GR w base e sz B2 ps qs css zss) (r : RC w 1 A n c (qs.map sv)) : RS w sz A n c qs zss :=
  ⟨r, by rw [h.lq, h.lz], fun j q zs h1 h2 => by
    obtain ⟨p, q', cs, zs', k1, k2, k3, k4, f⟩ := h.zat j (by rw [← h.lq]; exact (List.getElem?_eq_some_iff.1 h1).1)
    rw [h1] at k2; cases k2
    rw [h2] at k4; cases k4
    exact GC.read f.own⟩
theorem RS.at_ {w : World} {sz n c : Nat} {A : Option Addr} {ps : List Slot} {css : List (List Value)} (h : RS w sz A n c ps css) (i : Nat) (hi : i < n) : ∃ ad p cs, A = some ad ∧ ps[i]? = some p ∧ css[i]? = some cs ∧ w.cell? (ad.add i) = some (.slice p.1 p.2.1 p.2.2) ∧ RC w sz p.1 p.2.1 p.2.2 cs := by
  have hl : ps.length = n := by have := h.row.len; simpa using this
  obtain ⟨p, hp⟩ : ∃ p, ps[i]? = some p := ⟨_, List.getElem?_eq_getElem (by omega)⟩
  obtain ⟨cs, hc⟩ : ∃ cs, css[i]? = some cs := ⟨_, List.getElem?_eq_getElem (by rw [← h.len]; omega)⟩
  obtain ⟨ad, e, cell⟩ := RC.drop0 h.row (by omega)
  exact ⟨ad, p, cs, e, hp, hc, cell i _ (by rw [List.getElem?_map, hp]; rfl), h.each i p cs hp hc⟩
end Go.Proofs.YtmeakhiiebeneaaGreatDoor
namespace Go.Proofs.YtmeakhiiebeneaaGreatDoor
open Go.RowKit

/-- The book: one block of 41 cells. -/
def Bk (w : World) (gk : Nat) (cs : List Value) : Prop := OC w 39 1 gk 41 41 cs
theorem Bk.below {w w' : World} {gk : Nat} {cs : List Value} (h : Bk w gk cs) (b : Below w.heap.size w w') : Bk w' gk cs := OC.below h b
theorem Bk.same {w w' : World} {gk : Nat} {cs : List Value} (h : Bk w gk cs) (b : Sm w w' gk) : Bk w' gk cs := OC.same h b

/-- The mark of element j of the list number id. -/
def mkB (p : Int) (id j : Nat) : UInt8 := if p = 1 then UInt8.ofNat (id * 97 + j * 31) else UInt8.ofNat (id / 256 * 59 + j * 13 + id % 256 * 3 + 1)
def marksB (p : Int) (id n : Nat) : List UInt8 := (List.range n).map (mkB p id)
theorem marksB_length (p : Int) (id n : Nat) : (marksB p id n).length = n := by simp [marksB]
theorem marksB_succ (p : Int) (id n : Nat) : marksB p id (n + 1) = marksB p id n ++ [mkB p id n] := by simp [marksB, List.range_succ]
theorem marksB_get (p : Int) (id n j : Nat) (h : j < n) : (u8s (marksB p id n))[j]? = some (.int .u8 ((mkB p id j).toNat : Int)) := by simp [marksB, u8s, h]
theorem ret_u8 {a b : Int} (h : a = b) : Ending.returned (.int .u8 a) = Ending.returned (.int .u8 b) := by rw [h]

set_option maxHeartbeats 1000000 in
theorem bytesMark_calls (gk : Nat) (p : Int) (id j : Nat) (w : World) (hp : w.cell? ⟨gk, 1, none⟩ = some (.int .i64 p)) (h1 : id ≤ 1000000000) (h2 : j ≤ 1000000000) :
    Calls Tryz.prog 193 #[.pointer (some ⟨gk, 0, none⟩), .int .i64 (id : Int), .int .i64 (j : Int)] w fun e w' => e = .returned (.int .u8 ((mkB p id j).toNat : Int)) ∧ w = w' := by
  by_cases hq : p = 1
  · subst hq
    have e : ((mkB 1 id j).toNat : Int) = ((id : Int) * 97 + (j : Int) * 31) % 256 := by
      unfold mkB; rw [if_pos rfl, UInt8.toNat_ofNat']; omega
    rw [e]
    clear e
    go_enter Tryz.func193, Tryz.ntmps193
    go_wp2
    go_ret
    exact ⟨rfl, rfl⟩
  · have e : ((mkB p id j).toNat : Int) = ((id : Int) / 256 * 59 + (j : Int) * 13 + (id : Int) % 256 * 3 + 1) % 256 := by
      unfold mkB; rw [if_neg hq, UInt8.toNat_ofNat']; omega
    have t1 : (p == 1) = false := beq_eq_false_iff_ne.2 hq
    rw [e]
    clear e hq
    go_enter Tryz.func193, Tryz.ntmps193
    go_wp2
    go_ret
    exact ⟨rfl, rfl⟩

theorem bytesMark_of (gk : Nat) (p z : Int) (id j : Nat) (w : World) (hp : w.cell? ⟨gk, 1, none⟩ = some (.int .i64 p)) (hz : z = (id : Int)) (h1 : id ≤ 1000000000) (h2 : j ≤ 1000000000) :
    Calls Tryz.prog 193 #[.pointer (some ⟨gk, 0, none⟩), .int .i64 z, .int .i64 (j : Int)] w fun e w' => e = .returned (.int .u8 ((mkB p id j).toNat : Int)) ∧ w = w' := by
  subst hz; exact bytesMark_calls gk p id j w hp h1 h2
set_option maxHeartbeats 1000000 in
theorem bytesShow_calls (gk : Nat) (p : Int) (id : Nat) (A : Option Addr) (n c : Nat) (w : World) (hp : w.cell? ⟨gk, 1, none⟩ = some (.int .i64 p)) (h : RC w 1 A n c (u8s (marksB p id n))) (h1 : id ≤ 1000000000) (h2 : n ≤ 1000000000) :
    Calls Tryz.prog 206 #[.pointer (some ⟨gk, 0, none⟩), .slice A n c, .int .i64 (id : Int)] w fun e w' => e = .returned (.bool true) ∧ w = w' := by
  go_enter Tryz.func206, Tryz.ntmps206
  go_wp2
  go_loop [7] (fun jj => ∃ j : Nat, j ≤ n ∧ jj = .int .i64 (j : Int)) (fun jj => n - (intOf jj).toNat)
  case atStart => exact ⟨0, by omega, rfl⟩
  case round =>
    obtain ⟨j, hj, rfl⟩ := hrel
    by_cases hlt : j < n
    · obtain ⟨ad, u, rfl, hu, cell⟩ := h.at_ j hlt
      rw [marksB_get p id n j hlt] at hu
      cases hu
      have MK := bytesMark_calls gk p id j w hp h1 (by omega)
      generalize ((mkB p id j).toNat : Int) = v at cell MK
      have i1 : (j : Int) < (n : Int) := by omega
      go_wp2_with (go_at_call 193; refine MK.mono ?_; rintro en wx ⟨rfl, rfl⟩)
      go_round
      case rel => exact ⟨j + 1, by omega, by go_num⟩
      case measure => simp [intOf]; omega
    · obtain rfl : n = j := by omega
      go_wp2
      go_ret
      exact ⟨rfl, rfl⟩

theorem bytesShow_of (gk : Nat) (p z : Int) (id : Nat) (A : Option Addr) (n c : Nat) (w : World) (hp : w.cell? ⟨gk, 1, none⟩ = some (.int .i64 p)) (hz : z = (id : Int)) (h : RC w 1 A n c (u8s (marksB p id n))) (h1 : id ≤ 1000000000) (h2 : n ≤ 1000000000) :
    Calls Tryz.prog 206 #[.pointer (some ⟨gk, 0, none⟩), .slice A n c, .int .i64 z] w fun e w' => e = .returned (.bool true) ∧ w = w' := by
  subst hz; exact bytesShow_calls gk p id A n c w hp h h1 h2
/-- Each list shows its own marks (the first one those behind id0). -/
def MarkedB (p : Int) (id0 k : Nat) (css : List (List Value)) : Prop := ∀ j cs, j < k → css[j]? = some cs → cs = u8s (marksB p (id0 + j + 1) cs.length)
def ShortB (css : List (List Value)) : Prop := ∀ cs ∈ css, cs.length ≤ 1000000
theorem ShortB.at_ {css : List (List Value)} (h : ShortB css) {j : Nat} {cs : List Value} (k : css[j]? = some cs) : cs.length ≤ 1000000 := h cs (List.mem_of_getElem? k)
theorem MarkedB.more {p : Int} {id0 k : Nat} {css : List (List Value)} (h : MarkedB p id0 k css) (hk : ∀ cs, css[k]? = some cs → cs = u8s (marksB p (id0 + k + 1) cs.length)) : MarkedB p id0 (k + 1) css := fun j cs hj hc => by
  rcases Nat.lt_or_ge j k with q | q
  · exact h j cs q hc
  · obtain rfl : j = k := by omega
    exact hk cs hc
theorem MarkedB.set {p : Int} {id0 k i : Nat} {css : List (List Value)} (h : MarkedB p id0 k css) (hi : k ≤ i) (cs : List Value) : MarkedB p id0 k (css.set i cs) := fun j cs' hj hc => by
  rw [List.getElem?_set, if_neg (by omega)] at hc
  exact h j cs' hj hc

set_option maxRecDepth 100000 in
set_option maxHeartbeats 2000000 in
theorem bytesUntouched_calls (gk m cb cw : Nat) (Ab Aw : Option Addr) (vs vs' : List Value) (xss : List (List UInt8)) (w : World) (c2 : w.cell? ⟨gk, 2, none⟩ = some (.slice Ab m cb)) (c3 : w.cell? ⟨gk, 3, none⟩ = some (.slice Aw m cw)) (h : RM w Ab m cb vs xss) (h' : RM w Aw m cw vs' xss) (hm : m ≤ 1000000) :
    Calls Tryz.prog 116 #[.pointer (some ⟨gk, 0, none⟩)] w fun e w' => e = .returned (.bool true) ∧ ∃ j, w' = w.drewN j := by
  go_enter Tryz.func116, Tryz.ntmps116
  go_wp2
  go_loopw [3] (fun ii wr => ∃ i j : Nat, i ≤ m ∧ ii = .int .i64 (i : Int) ∧ Hid (wr = w.drewN j))
    (fun ii _ => m - (intOf ii).toNat)
  case atStart => exact ⟨0, 0, by omega, rfl, hideIt (by rfl)⟩
  case round =>
    obtain ⟨i, j, hi, rfl, HW⟩ := hrel
    have c2' : wr.cell? ⟨gk, 2, none⟩ = some (.slice Ab m cb) := by rw [HW.out]; exact c2
    have c3' : wr.cell? ⟨gk, 3, none⟩ = some (.slice Aw m cw) := by rw [HW.out]; exact c3
    have hr1 : RM wr Ab m cb vs xss := by rw [HW.out]; exact h.below (below_drewN (Below.refl _ _) j)
    have hr2 : RM wr Aw m cw vs' xss := by rw [HW.out]; exact h'.below (below_drewN (Below.refl _ _) j)
    by_cases hlt : i < m
    · obtain ⟨ad, A1, n1, c1, x, rfl, hx, cx, rx⟩ := hr1.row i hlt
      obtain ⟨ad', A2, n2, c2n, y, rfl, hy, cy, ry⟩ := hr2.row i hlt
      obtain rfl : x = y := Option.some.inj (hx.symm.trans hy)
      have i1 : (i : Int) < (m : Int) := by omega
      have con : ∀ q, Calls Tryz.prog 12 #[.slice A1 n1 c1, .slice A2 n2 c2n] (wr.drewN q) fun e w' => e = .returned (.bool true) ∧ w' = wr.drewN q := fun q =>
        (SameBytes_calls _ _ _ _ _ _ _ _ _ (rx.below (below_drewN (Below.refl _ _) q)) (ry.below (below_drewN (Below.refl _ _) q)) true (by simp)).mono fun _ _ ⟨a, b⟩ => ⟨a, b.symm⟩
      clear hx hy hr1 hr2
      go_wp2
      go_quiet (first | (go_at_call 12; exact Calls.quiet_of_same (con _)))
      go_wp2
      go_roundw
      case rel => exact ⟨i + 1, j + nq, by omega, by go_num, hideIt (by rw [HW.out, World.drewN_drewN])⟩
      case measure => simp [intOf]; omega
    · obtain rfl : m = i := by omega
      clear hr1 hr2
      go_wp2
      go_ret
      exact ⟨rfl, j, HW.out⟩

theorem set_self {α : Type} {l : List α} {i : Nat} {x : α} (h : l[i]? = some x) : l.set i x = l := by
  obtain ⟨hi, rfl⟩ := List.getElem?_eq_some_iff.1 h
  exact List.set_getElem_self hi
theorem u8s_none (xs : List UInt8) : (u8s xs).length = xs.length := u8s_length xs
def WriteB (base m cb id0 gk : Nat) (p : Int) (Ab : Option Addr) (ps : List Slot) (bs : List Value) (w : World) (e : Ending) (w' : World) : Prop :=
  ∃ css', e = .returned (.int .i64 ((id0 + m : Nat) : Int)) ∧ LS w' base 5 1 40 Ab m cb ps css' ∧ ShortB css' ∧ MarkedB p id0 m css' ∧ Bk w' gk bs ∧ Out (InPs ps) w w'
set_option maxRecDepth 100000 in
set_option maxHeartbeats 4000000 in
theorem bytesWrite_calls (gk base m cb id0 : Nat) (p : Int) (Ab : Option Addr) (ps : List Slot) (bs : List Value) (css : List (List Value)) (w : World) (hk : Bk w gk bs) (e1 : bs[1]? = some (.int .i64 p)) (e2 : bs[2]? = some (.slice Ab m cb)) (h : LS w base 5 1 40 Ab m cb ps css) (hs : ShortB css) (hm : m ≤ 1000000) (h0 : id0 ≤ 1000000) :
    Calls Tryz.prog 129 #[.pointer (some ⟨gk, 0, none⟩), .int .i64 (id0 : Int)] w (WriteB base m cb id0 gk p Ab ps bs w) := by
  have HS := hideIt hs
  have E1 := hideIt e1
  have E2 := hideIt e2
  clear hs e1 e2
  go_enter Tryz.func129, Tryz.ntmps129
  go_wp2
  go_loopw [1, 5] (fun dd ii wr => ∃ (i id : Nat) (css' : List (List Value)), i ≤ m ∧ Hid (id = id0 + i) ∧ dd = .int .i64 (id : Int) ∧ ii = .int .i64 (i : Int) ∧ LS wr base 5 1 40 Ab m cb ps css' ∧ Hid (ShortB css') ∧ Hid (MarkedB p id0 i css') ∧ Bk wr gk bs ∧ Out (InPs ps) w wr)
    (fun _ ii _ => m - (intOf ii).toNat)
  case atStart => exact ⟨0, id0, css, by omega, hideIt rfl, rfl, rfl, h, HS, hideIt (fun j cs hj => by omega), hk, Out.refl _ _⟩
  case round =>
    clear HS h hk
    obtain ⟨i, id, css', hi, HI, rfl, rfl, ls, HS, HM, bk, bw⟩ := hrel
    have c1 := OC.cell bk 1 _ E1.out
    have c2 := OC.cell bk 2 _ E2.out
    by_cases hlt : i < m
    · obtain ⟨gr, q, cs, rfl, orow, hq, hc, cell, gc⟩ := ls.at_ i hlt
      obtain ⟨A1, n1, k1⟩ := q
      have cl : cs.length = n1 := by have := gc.len; simp only at this; omega
      have n1l : n1 ≤ 1000000 := by rw [← cl]; exact HS.out.at_ hc
      have HQ := hideIt hq
      have i1 : (i : Int) < (m : Int) := by omega
      have idl : id ≤ 2000000 := by rw [HI.out]; omega
      have HC : Hid (cs.length = n1 ∧ cs.take 0 = u8s (marksB p (id + 1) 0)) := hideIt ⟨cl, rfl⟩
      have LS0 : LS wr base 5 1 40 (some ⟨gr, 0, none⟩) m cb ps (css'.set i cs) := by
        rw [set_self hc]; exact ls
      clear ls hq hc gc orow cl c1
      go_wp2
      clear cell c2
      obtain ⟨wo, hwo⟩ : ∃ wo, wo = wr := ⟨_, rfl⟩
      go_loopw [6] (fun jj wk => ∃ (j : Nat) (xs : List Value), j ≤ n1 ∧ jj = .int .i64 (j : Int) ∧ Hid (xs.length = n1 ∧ xs.take j = u8s (marksB p (id + 1) j)) ∧ LS wk base 5 1 40 (some ⟨gr, 0, none⟩) m cb ps (css'.set i xs) ∧ Bk wk gk bs ∧ Out (InPs ps) w wk)
        (fun jj _ => n1 - (intOf jj).toNat)
      case atStart => exact ⟨0, cs, by omega, rfl, HC, LS0, bk, bw⟩
      case round =>
        clear HC LS0 bk bw hwo
        obtain ⟨j, xs, hj, rfl, HX, ls, bk, bw⟩ := hrel
        have il : i < css'.length := by rw [← List.length_set (i := i) (a := xs), ← ls.len, ls.n]; exact hlt
        have hci : (css'.set i xs)[i]? = some xs := List.getElem?_set_self il
        obtain ⟨gr', q', cs', e', orow, hq', hc', cell, gc⟩ := ls.at_ i hlt
        cases e'
        obtain rfl : q' = (A1, n1, k1) := Option.some.inj (hq'.symm.trans HQ.out)
        obtain rfl : cs' = xs := Option.some.inj (hc'.symm.trans hci)
        simp only at cell gc
        have c1 := OC.cell bk 1 _ E1.out
        have c2 := OC.cell bk 2 _ E2.out
        by_cases hlj : j < n1
        · rcases gc.oc with ⟨_, z, _⟩ | ⟨g1, rfl, hg1, o1⟩
          · omega
          have fr := o1.free j
          obtain ⟨u0, hu0⟩ : ∃ u0, cs'[j]? = some u0 := ⟨_, List.getElem?_eq_getElem (by rw [HX.out.1]; exact hlj)⟩
          have cj := OC.cell o1 j u0 hu0
          have MK := fun W hW => bytesMark_of gk p ((id : Int) + 1) (id + 1) j W hW (by omega) (by omega) (by omega)
          have LT := fun u => ls.turn (by decide) i j g1 n1 k1 cs' u hq' hci
          have BT := fun u => Bk.same bk (Sm.setCell wr ⟨g1, j, none⟩ u (by rintro rfl; exact absurd (OC.tyy bk o1) (by decide)))
          have gx := fun u => gset wr g1 j u
          generalize hmk : mkB p (id + 1) j = mk at MK
          have HX2 : Hid ((cs'.set j (.int .u8 (mk.toNat : Int))).length = n1 ∧ (cs'.set j (.int .u8 (mk.toNat : Int))).take (j + 1) = u8s (marksB p (id + 1) (j + 1))) := hideIt ⟨by rw [List.length_set]; exact HX.out.1, by
            have lt : (cs'.take j).length = j := by rw [List.length_take, HX.out.1]; omega
            rw [marksB_succ, u8s_append, ← HX.out.2, hmk, List.take_set, List.take_add_one, hu0]
            show (cs'.take j ++ [u0]).set j _ = _
            rw [List.set_append_right _ _ (by omega), lt, Nat.sub_self]
            rfl⟩
          have LT' := (LT (.int .u8 (mk.toNat : Int))).below (drew1 _)
          have BT' := (BT (.int .u8 (mk.toNat : Int))).below (drew1 _)
          have b2 := (bw.grow (gx (.int .u8 (mk.toNat : Int))) (fun g hg => by cases hg; exact Or.inl (InPs.at_ hq'))).drew
          rw [List.set_set] at LT'
          have c2s := OC.cell BT' 2 _ E2.out
          have cells : (wr.setCell ⟨g1, j, none⟩ (.int .u8 (mk.toNat : Int))).drew.cell? ⟨gr, i, none⟩ = some (.slice (some ⟨g1, 0, none⟩) n1 k1) := cell_sm cell (Sm.setCell wr ⟨g1, j, none⟩ _ (by rintro rfl; exact absurd (OC.tyy orow o1) (by decide)))
          have hmkv := hideIt hmk
          have i2 : (j : Int) < (n1 : Int) := by omega
          clear LT BT gx hmk ls bk bw o1 gc hq' hc' hci hu0 orow
          have c1d : wr.drew.cell? ⟨gk, 1, none⟩ = some (.int .i64 p) := c1
          have c2d : wr.drew.cell? ⟨gk, 2, none⟩ = some (.slice (some ⟨gr, 0, none⟩) m cb) := c2
          have celld : wr.drew.cell? ⟨gr, i, none⟩ = some (.slice (some ⟨g1, 0, none⟩) n1 k1) := cell
          go_wp2
          go_region_held3 (fun w' => w'.cell? ⟨gk, 2, none⟩ = some (.slice (some ⟨gr, 0, none⟩) m cb) ∧ w'.cell? ⟨gr, i, none⟩ = some (.slice (some ⟨g1, 0, none⟩) n1 k1)) (first | exact ⟨c2d, celld⟩ | exact ⟨c2s, cells⟩ | go_keep)
            (first
              | (go_at_call 193; (with_reducible refine (MK _ c1d).mono ?_); rintro en wx ⟨rfl, rfl⟩))
          go_wp2
          go_roundw
          case rel => exact ⟨j + 1, _, by omega, by go_num, HX2, LT', BT', b2⟩
          case measure => simp [intOf]; omega
        · obtain rfl : n1 = j := by omega
          have HM2 : Hid (MarkedB p id0 (i + 1) (css'.set i cs')) := hideIt ((HM.out.set (Nat.le_refl _) cs').more fun cs0 h0 => by
            rw [hci] at h0
            cases h0
            have := HX.out.2
            rw [← HX.out.1, List.take_length, HX.out.1, HI.out] at this
            rw [HX.out.1]; exact this)
          have HS2 : Hid (ShortB (css'.set i cs')) := hideIt fun c0 h0 => by
            rcases List.mem_or_eq_of_mem_set h0 with q | q
            · exact HS.out c0 q
            · rw [q, HX.out.1]; exact n1l
          have HI2 : Hid (id + 1 = id0 + (i + 1)) := hideIt (by rw [HI.out]; omega)
          clear hq' hc' hci orow gc
          go_wp2
          go_roundw
          case rel => exact ⟨i + 1, id + 1, _, by omega, HI2, by go_num, by go_num, ls, HS2, HM2, bk, bw⟩
          case measure => simp [intOf]; omega
    · obtain rfl : m = i := by omega
      have e : Ending.returned (.int .i64 (id : Int)) = .returned (.int .i64 ((id0 + m : Nat) : Int)) := by rw [HI.out]
      have E := hideIt e
      clear e
      go_wp2
      go_ret
      exact ⟨css', E.out, ls, HS.out, HM.out, bk, bw⟩
end Go.Proofs.YtmeakhiiebeneaaGreatDoor
namespace Go.Proofs.YtmeakhiiebeneaaGreatDoor
open Go.RowKit

def HoldB (z : Nat) (w : World) (e : Ending) (w' : World) : Prop := e = .returned (.tuple #[.int .i64 (z : Int), .bool true]) ∧ w = w'
set_option maxRecDepth 100000 in
set_option maxHeartbeats 2000000 in
theorem bytesHold_calls (gk m cb mg cg id0 : Nat) (p : Int) (Ab Ag : Option Addr) (ps qs : List Slot) (css zss : List (List Value)) (w : World) (c1 : w.cell? ⟨gk, 1, none⟩ = some (.int .i64 p)) (c2 : w.cell? ⟨gk, 2, none⟩ = some (.slice Ab m cb)) (c4 : w.cell? ⟨gk, 4, none⟩ = some (.slice Ag mg cg))
    (h : RS w 1 Ab m cb ps css) (k1 : MarkedB p id0 m css) (s1 : ShortB css) (g : RS w 1 Ag mg cg qs zss) (hmg : mg = 0 ∨ mg = m) (k2 : MarkedB p id0 m zss) (s2 : ShortB zss) (hm : m ≤ 1000000) (h0 : id0 ≤ 1000000) :
    Calls Tryz.prog 142 #[.pointer (some ⟨gk, 0, none⟩), .int .i64 (id0 : Int)] w (HoldB (id0 + m) w) := by
  have K1 := hideIt k1
  have K2 := hideIt k2
  have S1 := hideIt s1
  have S2 := hideIt s2
  have HMG := hideIt hmg
  clear k1 k2 s1 s2 hmg
  go_enter Tryz.func142, Tryz.ntmps142
  go_wp2
  go_loop [1, 6, 7] (fun dd aa ii => ∃ (i id : Nat), i ≤ m ∧ Hid (id = id0 + i) ∧ dd = .int .i64 (id : Int) ∧ aa = .bool true ∧ ii = .int .i64 (i : Int))
    (fun _ _ ii => m - (intOf ii).toNat)
  case atStart => exact ⟨0, id0, by omega, hideIt rfl, rfl, rfl, rfl⟩
  case round =>
    obtain ⟨i, id, hi, HI, rfl, rfl, rfl⟩ := hrel
    by_cases hlt : i < m
    · obtain ⟨ad, q, cs, rfl, hq, hc, cell, rc⟩ := h.at_ i hlt
      obtain ⟨A1, n1, d1⟩ := q
      simp only at cell rc
      have cl : cs.length = n1 := by have := rc.len; omega
      have ce := K1.out i cs hlt hc
      have sl := S1.out.at_ hc
      rw [cl] at ce sl
      have idl : id ≤ 2000000 := by rw [HI.out]; omega
      rw [ce, ← HI.out] at rc
      have SH := bytesShow_of gk p ((id : Int) + 1) (id + 1) A1 n1 d1 w c1 (by omega) rc (by omega) (by omega)
      have i1 : (i : Int) < (m : Int) := by omega
      have HI2 : Hid (id + 1 = id0 + (i + 1)) := hideIt (by rw [HI.out]; omega)
      clear hq hc cl ce sl rc
      go_upto_region 7 with (go_at_call 206; refine SH.mono ?_; rintro en wx ⟨rfl, rfl⟩)
      rcases HMG.out with z | z
      · subst z
        have t1 : decide ((i : Int) < 0) = false := decide_eq_false (by omega)
        clear SH
        go_wp2
        go_round
        case rel => exact ⟨i + 1, id + 1, by omega, HI2, by go_num, rfl, by go_num⟩
        case measure => simp [intOf]; omega
      · subst z
        obtain ⟨ad2, q, cs, rfl, hq, hc, cell2, rc⟩ := g.at_ i hlt
        obtain ⟨A2, n2, d2⟩ := q
        simp only at cell2 rc
        have cl : cs.length = n2 := by have := rc.len; omega
        have ce := K2.out i cs hlt hc
        have sl := S2.out.at_ hc
        rw [cl] at ce sl
        rw [ce, ← HI.out] at rc
        have SH2 := bytesShow_of gk p ((id : Int) + 1) (id + 1) A2 n2 d2 w c1 (by omega) rc (by omega) (by omega)
        have t1 : decide (i < mg) = true := decide_eq_true hlt
        clear hq hc cl ce sl rc SH
        go_wp2_with (go_at_call 206; refine SH2.mono ?_; rintro en wx ⟨rfl, rfl⟩)
        go_round
        case rel => exact ⟨i + 1, id + 1, by omega, HI2, by go_num, rfl, by go_num⟩
        case measure => simp [intOf]; omega
    · obtain rfl : m = i := by omega
      have E : Hid (id = id0 + m) := hideIt HI.out
      go_wp2
      go_ret2
      rw [← E.out]
      exact ⟨rfl, rfl⟩

/-! ### one turn of growing -/
theorem OC.past {w w3 : World} {base e sz e' sz' g0 n' c' n c g3 c3 : Nat} {A : Option Addr} {xs cs' : List Value} (o : OC w e' sz' g0 n' c' cs') (own : GC w base e sz A n c xs) (ne : e' ≠ e)
    (q : (∃ g, A = some ⟨g, 0, none⟩ ∧ g3 = g ∧ c3 = c ∧ w.grownBy w3 (some g)) ∨ (w.heap.size ≤ g3 ∧ w.grownBy w3 none)) : OC w3 e' sz' g0 n' c' cs' := by
  rcases q with ⟨g, rfl, -, -, k⟩ | ⟨-, k⟩
  · exact o.apart own k ne
  · exact o.same (Sm.of_grown k o.lt (by simp))
theorem GC.past {w w3 : World} {base e sz base' e' sz' n' c' n c g3 c3 : Nat} {A A' : Option Addr} {xs cs' : List Value} (o : GC w base' e' sz' A' n' c' cs') (own : GC w base e sz A n c xs) (ne : e' ≠ e)
    (q : (∃ g, A = some ⟨g, 0, none⟩ ∧ g3 = g ∧ c3 = c ∧ w.grownBy w3 (some g)) ∨ (w.heap.size ≤ g3 ∧ w.grownBy w3 none)) : GC w3 base' e' sz' A' n' c' cs' := by
  rcases o.oc with ⟨rfl, rfl, rfl, rfl⟩ | ⟨g, rfl, hb, o'⟩
  · exact GC.nil _ _ _ _
  · exact GC.of (o'.past own ne q) hb
def GrowD (ps : List Slot) (B2 : Nat) (g : Nat) : Prop := InPs ps g ∨ B2 ≤ g
theorem take_set_row (qs : List Slot) (i mg : Nat) (P : Slot) : ((qs.take mg).map sv).set i (sv P) = ((qs.set i P).take mg).map sv := by
  rw [← List.map_set, List.take_set]
/-- One list is grown: its slice is laid into the row anew. -/
theorem grow_step {w w3 : World} {gk base e sz rt B2 gg i mg cg n1 k1 g3 c3 m cb : Nat} {Ab A1 : Option Addr} {BS : List Value} {ps qs : List Slot} {css zss : List (List Value)} {zs ys : List Value} (ne : e ≠ rt) (nk1 : 39 ≠ e) (nk2 : 39 ≠ rt)
    (bk : Bk w gk BS) (ra : GC w base rt 1 Ab m cb (ps.map sv)) (hab : ∀ a, Ab = some a → a.block < B2) (rg : OC w rt 1 gg mg cg ((qs.take mg).map sv)) (hgg : B2 ≤ gg) (gr : GR w base e sz B2 ps qs css zss) (hq : qs[i]? = some (A1, n1, k1)) (hz : zss[i]? = some zs)
    (q3 : (∃ g, A1 = some ⟨g, 0, none⟩ ∧ g3 = g ∧ c3 = k1 ∧ w.grownBy w3 (some g)) ∨ (w.heap.size ≤ g3 ∧ w.grownBy w3 none)) (o3 : OC w3 e sz g3 (n1 + 1) c3 (zs ++ ys)) (hb : base ≤ w.heap.size) (hB : B2 ≤ w.heap.size) :
    (Bk w3 gk BS ∧ OC w3 rt 1 gg mg cg ((qs.take mg).map sv)) ∧
    Bk (w3.setCell ⟨gg, i, none⟩ (.slice (some ⟨g3, 0, none⟩) (n1 + 1) c3)) gk BS ∧
    GC (w3.setCell ⟨gg, i, none⟩ (.slice (some ⟨g3, 0, none⟩) (n1 + 1) c3)) base rt 1 Ab m cb (ps.map sv) ∧
    OC (w3.setCell ⟨gg, i, none⟩ (.slice (some ⟨g3, 0, none⟩) (n1 + 1) c3)) rt 1 gg mg cg (((qs.set i (some ⟨g3, 0, none⟩, n1 + 1, c3)).take mg).map sv) ∧
    GR (w3.setCell ⟨gg, i, none⟩ (.slice (some ⟨g3, 0, none⟩) (n1 + 1) c3)) base e sz B2 ps (qs.set i (some ⟨g3, 0, none⟩, n1 + 1, c3)) css (zss.set i (zs ++ ys)) ∧
    Out (GrowD ps B2) w (w3.setCell ⟨gg, i, none⟩ (.slice (some ⟨g3, 0, none⟩) (n1 + 1) c3)) := by
  obtain ⟨p, q', cs, zs', h1, h2, h3, h4, f⟩ := gr.zat i (by rw [← gr.lq]; exact (List.getElem?_eq_some_iff.1 hq).1)
  rw [hq] at h2; cases h2
  rw [hz] at h4; cases h4
  have own : GC w base e sz A1 n1 k1 zs := f.own
  have bk3 : Bk w3 gk BS := OC.past bk own nk1 q3
  have rg3 := rg.past own (Ne.symm ne) q3
  have ra3 := ra.past own (Ne.symm ne) q3
  have gr3 := gr.grow hq hz q3 o3 hb hB
  have gx := gset w3 gg i (.slice (some ⟨g3, 0, none⟩) (n1 + 1) c3)
  have ou3 : Out (GrowD ps B2) w w3 := by
    rcases q3 with ⟨g, rfl, -, -, k⟩ | ⟨-, k⟩
    · refine (Out.refl _ w).grow k fun g' hg' => Or.inl ?_
      cases hg'
      rcases gr.new i p _ h1 hq _ rfl with z | z
      · exact Or.inr z
      · exact Or.inl ⟨p, List.mem_of_getElem? h1, _, z, rfl⟩
    · exact (Out.refl _ w).grow k fun g' hg' => by cases hg'
  refine ⟨⟨bk3, rg3⟩, Bk.same bk3 (Sm.setCell _ _ _ (by rintro rfl; exact nk2 (OC.tyy bk3 rg3))), ?_, ?_, gr3.apart gx rg3 ne, ou3.grow gx (fun g hg => by cases hg; exact Or.inl (Or.inr hgg))⟩
  · exact GC.same ra3 fun ad ea => Sm.setCell _ _ _ (by have := hab ad ea; simp only; omega)
  · have := rg3.set i (sv (some ⟨g3, 0, none⟩, n1 + 1, c3))
    rw [take_set_row] at this
    exact this
/-- A list more in the row of those that are grown. -/
theorem row_step {w w5 : World} {gk base e sz rt B2 i cg g5 c5 m cb F : Nat} {Ab Ag : Option Addr} {BS : List Value} {ps qs : List Slot} {css zss : List (List Value)} {P : Slot} (ne : e ≠ rt) (nk1 : 39 ≠ e) (nk2 : 39 ≠ rt)
    (bk : Bk w gk BS) (ra : GC w base rt 1 Ab m cb (ps.map sv)) (hab : ∀ a, Ab = some a → a.block < B2) (rg : GC w B2 rt 1 Ag i cg ((qs.take i).map sv)) (gr : GR w base e sz B2 ps qs css zss) (hq : qs[i]? = some P)
    (k5 : w.grownBy w5 (Ag.map (·.block))) (o5 : OC w5 rt 1 g5 (i + 1) c5 ((qs.take i).map sv ++ [sv P])) (_q5 : B2 ≤ g5) :
    (Bk w5 gk BS ∧ GC w5 base rt 1 Ab m cb (ps.map sv)) ∧
    Bk (w5.setCell ⟨gk, F, none⟩ (.slice (some ⟨g5, 0, none⟩) (i + 1) c5)) gk (BS.set F (.slice (some ⟨g5, 0, none⟩) (i + 1) c5)) ∧
    GC (w5.setCell ⟨gk, F, none⟩ (.slice (some ⟨g5, 0, none⟩) (i + 1) c5)) base rt 1 Ab m cb (ps.map sv) ∧
    OC (w5.setCell ⟨gk, F, none⟩ (.slice (some ⟨g5, 0, none⟩) (i + 1) c5)) rt 1 g5 (i + 1) c5 ((qs.take (i + 1)).map sv) ∧
    GR (w5.setCell ⟨gk, F, none⟩ (.slice (some ⟨g5, 0, none⟩) (i + 1) c5)) base e sz B2 ps qs css zss ∧
    Out (fun g => g = gk ∨ GrowD ps B2 g) w (w5.setCell ⟨gk, F, none⟩ (.slice (some ⟨g5, 0, none⟩) (i + 1) c5)) := by
  have bk5 : Bk w5 gk BS := OC.apart bk rg k5 nk2
  have gx := gset w5 gk F (.slice (some ⟨g5, 0, none⟩) (i + 1) c5)
  have ra5 : GC w5 base rt 1 Ab m cb (ps.map sv) := by
    refine GC.same ra fun ad ea => Sm.of_grown k5 (ra.lt ad ea).1 ?_
    have h1 := hab ad ea
    cases Ag with
    | none => simp
    | some a =>
      have h2 := (rg.lt a rfl).2
      simp only [Option.map_some, ne_eq, Option.some.injEq]
      omega
  have gr5 : GR w5 base e sz B2 ps qs css zss := by
    rcases rg.oc with ⟨rfl, _⟩ | ⟨g, rfl, _, og⟩
    · exact gr.keep fun j p q h1 h2 a ha => Sm.of_grown k5 (gr.lt j p q h1 h2 a ha).1 (by simp)
    · exact gr.apart k5 og ne
  have et : (qs.take i).map sv ++ [sv P] = (qs.take (i + 1)).map sv := by rw [List.take_add_one, hq]; simp
  rw [et] at o5
  have ou5 : Out (fun g => g = gk ∨ GrowD ps B2 g) w w5 := (Out.refl _ w).grow k5 fun g hg => by
    cases Ag with
    | none => cases hg
    | some a =>
      have h2 := (rg.lt a rfl).2
      simp only [Option.map_some, Option.some.injEq] at hg
      exact Or.inl (Or.inr (Or.inr (by omega)))
  refine ⟨⟨bk5, ra5⟩, OC.set bk5 F _, ?_, o5.same (Sm.setCell _ _ _ (by rintro rfl; exact nk2 (OC.tyy bk5 o5))), gr5.apart gx bk5 (Ne.symm nk1), ou5.grow gx (fun g hg => by cases hg; exact Or.inl (Or.inl rfl))⟩
  rcases ra5.oc with ⟨rfl, rfl, rfl, e0⟩ | ⟨g, rfl, hb, oa⟩
  · rw [e0]; exact GC.nil _ _ _ _
  · exact GC.of (oa.same (Sm.setCell _ _ _ (by rintro rfl; exact nk2 (OC.tyy bk5 oa)))) hb
end Go.Proofs.YtmeakhiiebeneaaGreatDoor
namespace Go.Proofs.YtmeakhiiebeneaaGreatDoor
open Go.RowKit

def AtB (A : Option Addr) (g : Nat) : Prop := ∃ a, A = some a ∧ a.block = g
def Cov (F : Nat → Prop) (S : Nat) (qs : List Slot) : Prop := ∀ g, InPs qs g → F g ∨ S ≤ g
theorem InPs.set {qs : List Slot} {i g n c : Nat} {P : Slot} (h : InPs (qs.set i P) g) (hP : P = (some ⟨g, 0, none⟩, n, c) → False) : InPs qs g ∨ AtB P.1 g := by
  obtain ⟨p, hp, a, ha, hg⟩ := h
  rcases List.mem_or_eq_of_mem_set hp with q | q
  · exact Or.inl ⟨p, q, a, ha, hg⟩
  · subst q; exact Or.inr ⟨a, ha, hg⟩
theorem Cov.set {F : Nat → Prop} {S i : Nat} {qs : List Slot} {P : Slot} (h : Cov F S qs) (hP : ∀ g, AtB P.1 g → F g ∨ S ≤ g) : Cov F S (qs.set i P) := by
  rintro g ⟨p, hp, a, ha, hg⟩
  rcases List.mem_or_eq_of_mem_set hp with q | q
  · exact h g ⟨p, q, a, ha, hg⟩
  · subst q; exact hP g ⟨a, ha, hg⟩
/-- One list is grown: its slice is laid into the row anew. -/
theorem grow_stepF {w w3 : World} {gk base e sz rt B2 gg i mg cg n1 k1 g3 c3 m cb : Nat} {Ab A1 : Option Addr} {BS : List Value} {ps qs : List Slot} {css zss : List (List Value)} {zs ys : List Value} (ne : e ≠ rt) (nk1 : 39 ≠ e) (nk2 : 39 ≠ rt)
    (bk : Bk w gk BS) (ra : GC w base rt 1 Ab m cb (ps.map sv)) (hab : ∀ a, Ab = some a → a.block < B2) (rg : OC w rt 1 gg mg cg ((qs.take mg).map sv)) (hgg : B2 ≤ gg) (gr : GR w base e sz B2 ps qs css zss) (hq : qs[i]? = some (A1, n1, k1)) (hz : zss[i]? = some zs)
    (q3 : (∃ g, A1 = some ⟨g, 0, none⟩ ∧ g3 = g ∧ c3 = k1 ∧ w.grownBy w3 (some g)) ∨ (w.heap.size ≤ g3 ∧ w.grownBy w3 none)) (o3 : OC w3 e sz g3 (n1 + 1) c3 (zs ++ ys)) (hb : base ≤ w.heap.size) (hB : B2 ≤ w.heap.size) :
    (Bk w3 gk BS ∧ OC w3 rt 1 gg mg cg ((qs.take mg).map sv)) ∧
    Bk (w3.setCell ⟨gg, i, none⟩ (.slice (some ⟨g3, 0, none⟩) (n1 + 1) c3)) gk BS ∧
    GC (w3.setCell ⟨gg, i, none⟩ (.slice (some ⟨g3, 0, none⟩) (n1 + 1) c3)) base rt 1 Ab m cb (ps.map sv) ∧
    OC (w3.setCell ⟨gg, i, none⟩ (.slice (some ⟨g3, 0, none⟩) (n1 + 1) c3)) rt 1 gg mg cg (((qs.set i (some ⟨g3, 0, none⟩, n1 + 1, c3)).take mg).map sv) ∧
    GR (w3.setCell ⟨gg, i, none⟩ (.slice (some ⟨g3, 0, none⟩) (n1 + 1) c3)) base e sz B2 ps (qs.set i (some ⟨g3, 0, none⟩, n1 + 1, c3)) css (zss.set i (zs ++ ys)) ∧
    Out (fun g => InPs qs g ∨ g = gg) w (w3.setCell ⟨gg, i, none⟩ (.slice (some ⟨g3, 0, none⟩) (n1 + 1) c3)) := by
  obtain ⟨p, q', cs, zs', h1, h2, h3, h4, f⟩ := gr.zat i (by rw [← gr.lq]; exact (List.getElem?_eq_some_iff.1 hq).1)
  rw [hq] at h2; cases h2
  rw [hz] at h4; cases h4
  have own : GC w base e sz A1 n1 k1 zs := f.own
  have bk3 : Bk w3 gk BS := OC.past bk own nk1 q3
  have rg3 := rg.past own (Ne.symm ne) q3
  have ra3 := ra.past own (Ne.symm ne) q3
  have gr3 := gr.grow hq hz q3 o3 hb hB
  have gx := gset w3 gg i (.slice (some ⟨g3, 0, none⟩) (n1 + 1) c3)
  have ou3 : Out (fun g => InPs qs g ∨ g = gg) w w3 := by
    rcases q3 with ⟨g, rfl, -, -, k⟩ | ⟨-, k⟩
    · refine (Out.refl _ w).grow k fun g' hg' => Or.inl (Or.inl ?_)
      cases hg'
      exact ⟨_, List.mem_of_getElem? hq, _, rfl, rfl⟩
    · exact (Out.refl _ w).grow k fun g' hg' => by cases hg'
  refine ⟨⟨bk3, rg3⟩, Bk.same bk3 (Sm.setCell _ _ _ (by rintro rfl; exact nk2 (OC.tyy bk3 rg3))), ?_, ?_, gr3.apart gx rg3 ne, ou3.grow gx (fun g hg => by cases hg; exact Or.inl (Or.inr rfl))⟩
  · exact GC.same ra3 fun ad ea => Sm.setCell _ _ _ (by have := hab ad ea; simp only; omega)
  · have := rg3.set i (sv (some ⟨g3, 0, none⟩, n1 + 1, c3))
    rw [take_set_row] at this
    exact this
/-- A list more in the row of those that are grown. -/
theorem row_stepF {w w5 : World} {gk base e sz rt B2 i cg g5 c5 m cb F : Nat} {Ab Ag : Option Addr} {BS : List Value} {ps qs : List Slot} {css zss : List (List Value)} {P : Slot} (ne : e ≠ rt) (nk1 : 39 ≠ e) (nk2 : 39 ≠ rt)
    (bk : Bk w gk BS) (ra : GC w base rt 1 Ab m cb (ps.map sv)) (hab : ∀ a, Ab = some a → a.block < B2) (rg : GC w B2 rt 1 Ag i cg ((qs.take i).map sv)) (gr : GR w base e sz B2 ps qs css zss) (hq : qs[i]? = some P)
    (k5 : w.grownBy w5 (Ag.map (·.block))) (o5 : OC w5 rt 1 g5 (i + 1) c5 ((qs.take i).map sv ++ [sv P])) (_q5 : B2 ≤ g5) :
    (Bk w5 gk BS ∧ GC w5 base rt 1 Ab m cb (ps.map sv)) ∧
    Bk (w5.setCell ⟨gk, F, none⟩ (.slice (some ⟨g5, 0, none⟩) (i + 1) c5)) gk (BS.set F (.slice (some ⟨g5, 0, none⟩) (i + 1) c5)) ∧
    GC (w5.setCell ⟨gk, F, none⟩ (.slice (some ⟨g5, 0, none⟩) (i + 1) c5)) base rt 1 Ab m cb (ps.map sv) ∧
    OC (w5.setCell ⟨gk, F, none⟩ (.slice (some ⟨g5, 0, none⟩) (i + 1) c5)) rt 1 g5 (i + 1) c5 ((qs.take (i + 1)).map sv) ∧
    GR (w5.setCell ⟨gk, F, none⟩ (.slice (some ⟨g5, 0, none⟩) (i + 1) c5)) base e sz B2 ps qs css zss ∧
    Out (fun g => g = gk ∨ AtB Ag g) w (w5.setCell ⟨gk, F, none⟩ (.slice (some ⟨g5, 0, none⟩) (i + 1) c5)) := by
  have bk5 : Bk w5 gk BS := OC.apart bk rg k5 nk2
  have gx := gset w5 gk F (.slice (some ⟨g5, 0, none⟩) (i + 1) c5)
  have ra5 : GC w5 base rt 1 Ab m cb (ps.map sv) := by
    refine GC.same ra fun ad ea => Sm.of_grown k5 (ra.lt ad ea).1 ?_
    have h1 := hab ad ea
    cases Ag with
    | none => simp
    | some a =>
      have h2 := (rg.lt a rfl).2
      simp only [Option.map_some, ne_eq, Option.some.injEq]
      omega
  have gr5 : GR w5 base e sz B2 ps qs css zss := by
    rcases rg.oc with ⟨rfl, _⟩ | ⟨g, rfl, _, og⟩
    · exact gr.keep fun j p q h1 h2 a ha => Sm.of_grown k5 (gr.lt j p q h1 h2 a ha).1 (by simp)
    · exact gr.apart k5 og ne
  have et : (qs.take i).map sv ++ [sv P] = (qs.take (i + 1)).map sv := by rw [List.take_add_one, hq]; simp
  rw [et] at o5
  have ou5 : Out (fun g => g = gk ∨ AtB Ag g) w w5 := (Out.refl _ w).grow k5 fun g hg => by
    cases Ag with
    | none => cases hg
    | some a =>
      simp only [Option.map_some, Option.some.injEq] at hg
      exact Or.inl (Or.inr ⟨a, rfl, hg⟩)
  refine ⟨⟨bk5, ra5⟩, OC.set bk5 F _, ?_, o5.same (Sm.setCell _ _ _ (by rintro rfl; exact nk2 (OC.tyy bk5 o5))), gr5.apart gx bk5 (Ne.symm nk1), ou5.grow gx (fun g hg => by cases hg; exact Or.inl (Or.inl rfl))⟩
  rcases ra5.oc with ⟨rfl, rfl, rfl, e0⟩ | ⟨g, rfl, hb, oa⟩
  · rw [e0]; exact GC.nil _ _ _ _
  · exact GC.of (oa.same (Sm.setCell _ _ _ (by rintro rfl; exact nk2 (OC.tyy bk5 oa)))) hb

/-! ### a kind's lists behind t turns -/
structure GSt (w : World) (base B2 e sz rt m cb : Nat) (Ab : Option Addr) (ps : List Slot) (css : List (List Value)) (M : List (List Value) → Prop) (K t mg cg : Nat) (Ag : Option Addr) (F : Nat → Prop) : Prop where
  ra : GC w base rt 1 Ab m cb (ps.map sv)
  ab : ∀ a, Ab = some a → a.block < B2
  fl : ∀ g, F g → g < w.heap.size
  fp : ∀ g, InPs ps g → F g
  fa : ∀ g, AtB Ab g → F g
  now : (t = 0 ∧ mg = 0 ∧ cg = 0 ∧ Ag = none ∧ GR w base e sz B2 ps ps css css ∧ M css ∧ (∀ zs ∈ css, zs.length ≤ K * sz)) ∨
    (0 < t ∧ mg = m ∧ ∃ qs zss, GC w B2 rt 1 Ag m cg (qs.map sv) ∧ GR w base e sz B2 ps qs css zss ∧ M zss ∧ (∀ zs ∈ zss, zs.length ≤ (K + t) * sz) ∧ (∀ g, InPs qs g → F g) ∧ (∀ g, AtB Ag g → F g))
theorem GC.out {w w' : World} {base e sz n c : Nat} {A : Option Addr} {cs : List Value} {D : Nat → Prop} (h : GC w base e sz A n c cs) (ou : Out D w w') (hd : ∀ g, AtB A g → ¬ D g) : GC w' base e sz A n c cs :=
  GC.same h fun ad e => ou.sm (h.lt ad e).1 (hd _ ⟨ad, e, rfl⟩)
theorem GR.out {w w' : World} {base e sz B2 : Nat} {ps qs : List Slot} {css zss : List (List Value)} {D : Nat → Prop} (h : GR w base e sz B2 ps qs css zss) (ou : Out D w w') (hp : ∀ g, InPs ps g → ¬ D g) (hq : ∀ g, InPs qs g → ¬ D g) : GR w' base e sz B2 ps qs css zss :=
  h.keep fun j p q h1 h2 a ha => ou.sm (h.lt j p q h1 h2 a ha).1 (by
    rcases ha with e | e
    · exact hp _ ⟨p, List.mem_of_getElem? h1, a, e, rfl⟩
    · exact hq _ ⟨q, List.mem_of_getElem? h2, a, e, rfl⟩)
theorem LS.out {w w' : World} {base e sz rt n c : Nat} {A : Option Addr} {ps : List Slot} {css : List (List Value)} {D : Nat → Prop} (h : LS w base e sz rt A n c ps css) (ou : Out D w w') (ha : ∀ g, AtB A g → ¬ D g) (hp : ∀ g, InPs ps g → ¬ D g) : LS w' base e sz rt A n c ps css :=
  ⟨h.row.out ou ha, h.len, fun j p cs h1 h2 => (h.each j p cs h1 h2).out ou fun g ⟨a, e, q⟩ => hp g ⟨p, List.mem_of_getElem? h1, a, e, q⟩, h.inc⟩
theorem GSt.out {w w' : World} {base B2 e sz rt m cb : Nat} {Ab : Option Addr} {ps : List Slot} {css : List (List Value)} {M : List (List Value) → Prop} {K t mg cg : Nat} {Ag : Option Addr} {F D : Nat → Prop} (h : GSt w base B2 e sz rt m cb Ab ps css M K t mg cg Ag F) (ou : Out D w w') (hd : ∀ g, F g → ¬ D g) : GSt w' base B2 e sz rt m cb Ab ps css M K t mg cg Ag F := by
  refine ⟨h.ra.out ou fun g q => hd g (h.fa g q), h.ab, fun g q => Nat.lt_of_lt_of_le (h.fl g q) ou.size, h.fp, h.fa, ?_⟩
  rcases h.now with ⟨h1, h2, h3, h4, h5, h6, h7⟩ | ⟨h1, h2, qs, zss, h3, h4, h5, h6, h7, h8⟩
  · exact Or.inl ⟨h1, h2, h3, h4, h5.out ou (fun g q => hd g (h.fp g q)) (fun g q => hd g (h.fp g q)), h6, h7⟩
  · exact Or.inr ⟨h1, h2, qs, zss, h3.out ou fun g q => hd g (h8 g q), h4.out ou (fun g q => hd g (h.fp g q)) (fun g q => hd g (h7 g q)), h5, h6, h7, h8⟩
/-- A kind's lists and their row: the blocks. -/
def Blk (A : Option Addr) (ps : List Slot) (g : Nat) : Prop := InPs ps g ∨ AtB A g
theorem LS.blk {w : World} {base e sz rt n c : Nat} {A : Option Addr} {ps : List Slot} {css : List (List Value)} (h : LS w base e sz rt A n c ps css) {g : Nat} (q : Blk A ps g) : g < w.heap.size := by
  rcases q with ⟨p, hp, a, ha, rfl⟩ | ⟨a, ha, rfl⟩
  · exact (h.lt p hp a ha).1
  · exact (h.row.lt a ha).1
theorem LS.ty {w : World} {base e sz rt n c : Nat} {A : Option Addr} {ps : List Slot} {css : List (List Value)} (h : LS w base e sz rt A n c ps css) {g : Nat} (q : Blk A ps g) : (∃ n' c' cs, OC w e sz g n' c' cs) ∨ (∃ n' c' cs, OC w rt 1 g n' c' cs) := by
  rcases q with ⟨p, hp, a, ha, rfl⟩ | ⟨a, ha, rfl⟩
  · obtain ⟨j, hj⟩ := List.getElem?_of_mem hp
    obtain ⟨cs, hc⟩ : ∃ cs, css[j]? = some cs := ⟨_, List.getElem?_eq_getElem (by rw [← h.len]; exact (List.getElem?_eq_some_iff.1 hj).1)⟩
    rcases (h.each j p cs hj hc).oc with ⟨e0, _⟩ | ⟨g0, e0, _, o⟩
    · rw [ha] at e0; cases e0
    · rw [ha] at e0; cases e0
      exact Or.inl ⟨_, _, _, o⟩
  · rcases h.row.oc with ⟨e0, _⟩ | ⟨g0, e0, _, o⟩
    · rw [ha] at e0; cases e0
    · rw [ha] at e0; cases e0
      exact Or.inr ⟨_, _, _, o⟩
theorem LS.gst {w : World} {base e sz rt m cb K : Nat} {Ab : Option Addr} {ps : List Slot} {css : List (List Value)} {M : List (List Value) → Prop} (h : LS w base e sz rt Ab m cb ps css) (hM : M css) (hK : ∀ zs ∈ css, zs.length ≤ K * sz) : GSt w base w.heap.size e sz rt m cb Ab ps css M K 0 0 0 none (Blk Ab ps) :=
  ⟨h.row, fun a e => (h.row.lt a e).1, fun _ q => h.blk q, fun _ q => Or.inl q, fun _ q => Or.inr q, Or.inl ⟨rfl, rfl, rfl, rfl, GR.start _ h, hM, hK⟩⟩

/-! ### marks of several cells -/
def runs (mk : Nat → List Value) (n : Nat) : List Value := (List.range n).flatMap mk
theorem runs_succ (mk : Nat → List Value) (n : Nat) : runs mk (n + 1) = runs mk n ++ mk n := by unfold runs; rw [List.range_succ, List.flatMap_append]; simp
theorem runs_length (mk : Nat → List Value) (sz : Nat) (h : ∀ j, (mk j).length = sz) (n : Nat) : (runs mk n).length = n * sz := by
  induction n with
  | zero => simp [runs]
  | succ n ih => rw [runs_succ, List.length_append, ih, h, Nat.add_mul, Nat.one_mul]
theorem runs_get (mk : Nat → List Value) (sz : Nat) (h : ∀ j, (mk j).length = sz) (n j i : Nat) (hj : j < n) (hi : i < sz) : (runs mk n)[j * sz + i]? = (mk j)[i]? := by
  induction n with
  | zero => omega
  | succ n ih =>
    rw [runs_succ]
    by_cases q : j < n
    · have : j * sz + i < n * sz := by
        have := Nat.mul_le_mul_right sz (show j + 1 ≤ n by omega)
        rw [Nat.add_mul, Nat.one_mul] at this
        omega
      rw [List.getElem?_append_left (by rw [runs_length mk sz h]; exact this), ih q]
    · obtain rfl : j = n := by omega
      rw [List.getElem?_append_right (by rw [runs_length mk sz h]; omega), runs_length mk sz h, Nat.add_sub_cancel_left]
/-- Each list shows its own marks. -/
def MarkR (mk : Nat → Nat → List Value) (id0 k : Nat) (css : List (List Value)) : Prop := ∀ j cs, j < k → css[j]? = some cs → ∃ n, cs = runs (mk (id0 + j + 1)) n
theorem MarkR.at_ {mk : Nat → Nat → List Value} {id0 k sz j n : Nat} {css : List (List Value)} {cs : List Value} (h : MarkR mk id0 k css) (hsz : 0 < sz) (hm : ∀ i j, (mk i j).length = sz) (hj : j < k) (hc : css[j]? = some cs) (hl : cs.length = n * sz) : cs = runs (mk (id0 + j + 1)) n := by
  obtain ⟨n', rfl⟩ := h j cs hj hc
  rw [runs_length _ sz (hm _)] at hl
  rw [Nat.eq_of_mul_eq_mul_right hsz hl]
theorem MarkR.more {mk : Nat → Nat → List Value} {id0 k : Nat} {css : List (List Value)} (h : MarkR mk id0 k css) (hk : ∀ cs, css[k]? = some cs → ∃ n, cs = runs (mk (id0 + k + 1)) n) : MarkR mk id0 (k + 1) css := fun j cs hj hc => by
  rcases Nat.lt_or_ge j k with q | q
  · exact h j cs q hc
  · obtain rfl : j = k := by omega
    exact hk cs hc
theorem MarkR.set {mk : Nat → Nat → List Value} {id0 k i : Nat} {css : List (List Value)} (h : MarkR mk id0 k css) (hi : k ≤ i) (cs : List Value) : MarkR mk id0 k (css.set i cs) := fun j cs' hj hc => by
  rw [List.getElem?_set, if_neg (by omega)] at hc
  exact h j cs' hj hc
theorem MarkR.grow {mk : Nat → Nat → List Value} {id0 m i sz n : Nat} {zss : List (List Value)} {zs ys : List Value} (h : MarkR mk id0 m zss) (hsz : 0 < sz) (hm : ∀ i j, (mk i j).length = sz) (hi : i < m) (hz : zss[i]? = some zs) (hl : zs.length = n * sz) (hv : mk (id0 + i + 1) n = ys) : MarkR mk id0 m (zss.set i (zs ++ ys)) := fun j zs' hj k => by
  rw [List.getElem?_set] at k
  by_cases hij : i = j
  · subst hij
    rw [if_pos rfl] at k
    split at k
    · cases k
      refine ⟨n + 1, ?_⟩
      rw [runs_succ, ← h.at_ hsz hm hi hz hl, hv]
    · cases k
  · rw [if_neg hij] at k
    exact h j zs' hj k
theorem MarkR.nil (mk : Nat → Nat → List Value) (id0 k : Nat) : MarkR mk id0 k [] := fun j cs _ h => by simp at h
/-- at most K elements each, from place i on one less. -/
def LenR (K sz i : Nat) (zss : List (List Value)) : Prop := ∀ j zs, zss[j]? = some zs → zs.length ≤ (K + 1) * sz ∧ (i ≤ j → zs.length ≤ K * sz)
theorem LenR.start {K sz : Nat} {zss : List (List Value)} (h : ∀ zs ∈ zss, zs.length ≤ K * sz) : LenR K sz 0 zss := fun _ zs k => ⟨Nat.le_trans (h zs (List.mem_of_getElem? k)) (Nat.mul_le_mul_right _ (Nat.le_succ _)), fun _ => h zs (List.mem_of_getElem? k)⟩
theorem LenR.done {K sz m : Nat} {zss : List (List Value)} (h : LenR K sz m zss) : ∀ zs ∈ zss, zs.length ≤ (K + 1) * sz := fun zs hz => by
  obtain ⟨j, hj⟩ := List.getElem?_of_mem hz
  exact (h j zs hj).1
theorem LenR.step {K sz i : Nat} {zss : List (List Value)} {zs ys : List Value} (h : LenR K sz i zss) (hz : zss[i]? = some zs) (hy : ys.length = sz) : LenR K sz (i + 1) (zss.set i (zs ++ ys)) := fun j zs' k => by
  rw [List.getElem?_set] at k
  by_cases hij : i = j
  · subst hij
    rw [if_pos rfl] at k
    split at k
    · cases k
      have := (h i zs hz).2 (Nat.le_refl _)
      exact ⟨by rw [List.length_append, hy, Nat.add_mul, Nat.one_mul]; omega, fun q => by omega⟩
    · cases k
  · rw [if_neg hij] at k
    exact ⟨(h j zs' k).1, fun q => (h j zs' k).2 (by omega)⟩
end Go.Proofs.YtmeakhiiebeneaaGreatDoor
