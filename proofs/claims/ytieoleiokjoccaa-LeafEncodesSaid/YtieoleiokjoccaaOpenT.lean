/- Arguments opened: a slice of items. -/
import Derived.Test.YtieoleiokjoccaaFb
import Derived.Test.YtieoleiokjoccaaOpen
import Derived.Lib.SmallJoins
namespace Go.Proofs.Ytieoleiokjoccaa
open Go.ChangeShapes Go.WideShapes Go.ChangeAt Go.RowKit

theorem cells_titem : Try.prog.cellsOf 48 = 4 := by kernel_rfl
theorem cells_tint : Try.prog.cellsOf 3 = 1 := by kernel_rfl
theorem cells_tb : Try.prog.cellsOf 34 = 1 := by kernel_rfl
theorem open_tcell {H : Type} {enc : TypeId × Value → H} {W : World} {base k : Nat} {held : Bool} {c0 : Value} {y : DataW H × List MemPlace}
    (g : DataW.trod enc Try.prog W base (fun _ => true) held k 34 [c0] = some y) : ∃ (p : Option Addr × Nat × Nat) (xs : List UInt8), c0 = sv p ∧ RB W p.1 p.2.1 p.2.2 xs := by
  obtain ⟨d, ps⟩ := y
  rcases Go.Deep.open_slice Try.underlying34 g with ⟨hcs, _⟩ | ⟨ad, l, c, m, n, D, Pl, hcs, _⟩
  · simp at hcs
    subst hcs
    obtain ⟨xs, hx⟩ := open_bytes ⟨k, g⟩
    exact ⟨(_, _, _), xs, rfl, hx⟩
  · simp at hcs
    subst hcs
    obtain ⟨xs, hx⟩ := open_bytes ⟨k, g⟩
    exact ⟨(_, _, _), xs, rfl, hx⟩
theorem RT.mk_of {W : World} {a : Option Addr} {cap : Nat} (zs : List Cel) (hr : RC W 4 a zs.length cap (itvs zs)) (he : ∀ z ∈ zs, RB W z.p.1 z.p.2.1 z.p.2.2 z.x.k ∧ RB W z.q.1 z.q.2.1 z.q.2.2 z.x.v) : RT W a zs.length cap (itvs zs) (its zs) :=
  ⟨hr, its_length zs, fun j x hj => by
    obtain ⟨z, hz, rfl⟩ : ∃ z, zs[j]? = some z ∧ z.x = x := by
      unfold its at hj
      rw [List.getElem?_map] at hj
      rcases hz : zs[j]? with _ | z
      · rw [hz] at hj; cases hj
      · rw [hz] at hj; cases hj; exact ⟨z, rfl, rfl⟩
    obtain ⟨e1, e2, e3, e4⟩ := itvs_get zs j z hz
    have hm := he z (List.mem_of_getElem? hz)
    exact ⟨z.p, z.q, e1, e2, e3, e4, hm.1, hm.2⟩⟩
theorem itvs_cases (l : List Cel) (j : Nat) (u : Value) (h : (itvs l)[j]? = some u) : ∃ i z, l[i]? = some z ∧ ((j = i * 4 ∧ u = sv z.p) ∨ (j = i * 4 + 1 ∧ u = sv z.q) ∨ (j = i * 4 + 2 ∧ u = .int .i64 z.x.s) ∨ (j = i * 4 + 3 ∧ u = .int .i64 z.x.f)) := by
  have hj : j < l.length * 4 := by rw [← itvs_length]; exact (List.getElem?_eq_some_iff.1 h).1
  have hi : j / 4 < l.length := by omega
  have hk : l[j / 4]? = some l[j / 4] := List.getElem?_eq_getElem hi
  obtain ⟨g1, g2, g3, g4⟩ := itvs_get l (j / 4) _ hk
  refine ⟨j / 4, _, hk, ?_⟩
  have q : j % 4 = 0 ∨ j % 4 = 1 ∨ j % 4 = 2 ∨ j % 4 = 3 := by omega
  rcases q with q | q | q | q
  · have e : j / 4 * 4 = j := by omega
    rw [e, h] at g1
    exact Or.inl ⟨e.symm, Option.some.inj g1⟩
  · have e : j / 4 * 4 + 1 = j := by omega
    rw [e, h] at g2
    exact Or.inr (Or.inl ⟨e.symm, Option.some.inj g2⟩)
  · have e : j / 4 * 4 + 2 = j := by omega
    rw [e, h] at g3
    exact Or.inr (Or.inr (Or.inl ⟨e.symm, Option.some.inj g3⟩))
  · have e : j / 4 * 4 + 3 = j := by omega
    rw [e, h] at g4
    exact Or.inr (Or.inr (Or.inr ⟨e.symm, Option.some.inj g4⟩))
set_option maxRecDepth 100000 in
theorem open_items {H : Type} {enc : TypeId × Value → H} {W : World} {base : Nat} {held : Bool} {a : Option Addr} {len cap : Nat} {d : DataW H} {ps : List MemPlace}
    (h : DataW.Trod enc Try.prog W base (fun _ => true) held 22 (.slice a len cap) d ps) : ∃ vs l, RT W a len cap vs l := by
  obtain ⟨fuel, hf⟩ := h
  rcases Go.Deep.open_slice Try.underlying22 hf with ⟨hcs, _⟩ | ⟨ad, l, c, m, n, D, Pl, hcs, _, hl, hm, hmm, _, hi⟩
  · simp [Value.cells] at hcs
    obtain ⟨rfl, rfl, rfl⟩ := hcs
    exact ⟨[], [], RT.mk_of [] ⟨rfl, Nat.le_refl _, Nat.zero_le _, fun _ => rfl, fun ad e => by cases e⟩ (fun z hz => by cases hz)⟩
  · simp [Value.cells] at hcs
    obtain ⟨rfl, rfl, rfl⟩ := hcs
    have hml : len ≤ m := by rw [hmm]; split <;> omega
    have key : ∀ i, i < len → ∃ z : Cel, ItAt W (ad.add (i * 4)) z.p z.q z.x.s z.x.f ∧ RB W z.p.1 z.p.2.1 z.p.2.2 z.x.k ∧ RB W z.q.1 z.q.2.1 z.q.2.2 z.x.v := by
      intro i him
      obtain ⟨cs', hc, ht'⟩ := hi i (by omega)
      rw [cells_titem] at hc
      obtain ⟨xs, k, _, _, _, hlen, hg⟩ := DataW.trod_struct Try.underlying48 ht'
      obtain ⟨_, hcl, hat⟩ := World.cells?_some hc
      match cs', hcl with
      | [c0, c1, c2, c3], _ =>
        match xs, hlen with
        | [y0, y1, y2, y3], _ =>
          have g0 : DataW.trod enc Try.prog W base (fun _ => true) held k 34 (([c0, c1, c2, c3].drop 0).take (Try.prog.cellsOf 34)) = some y0 := hg 0 _ rfl
          have g1 : DataW.trod enc Try.prog W base (fun _ => true) held k 34 (([c0, c1, c2, c3].drop 1).take (Try.prog.cellsOf 34)) = some y1 := hg 1 _ rfl
          have g2 : DataW.trod enc Try.prog W base (fun _ => true) held k 3 (([c0, c1, c2, c3].drop 2).take (Try.prog.cellsOf 3)) = some y2 := hg 2 _ rfl
          have g3 : DataW.trod enc Try.prog W base (fun _ => true) held k 3 (([c0, c1, c2, c3].drop 3).take (Try.prog.cellsOf 3)) = some y3 := hg 3 _ rfl
          rw [cells_tb] at g0 g1
          rw [cells_tint] at g2 g3
          obtain ⟨p, xk, rfl, r0⟩ := open_tcell g0
          obtain ⟨q, xv, rfl, r1⟩ := open_tcell g1
          obtain ⟨s, h2, _, w2⟩ := DataW.trod_int Try.underlying3 g2
          obtain ⟨f, h3, _, w3⟩ := DataW.trod_int Try.underlying3 g3
          simp at h2 h3
          subst h2 h3
          have q0 := hat 0 (by decide)
          have q1 := hat 1 (by decide)
          have q2 := hat 2 (by decide)
          have q3 := hat 3 (by decide)
          have e : (ad.add (i * 4)).add 0 = ad.add (i * 4) := by generalize ad.add (i * 4) = b; unfold Addr.add; exact if_pos rfl
          rw [e] at q0
          rw [Addr.add_succ'] at q1 q2 q3
          exact ⟨⟨p, q, ⟨xk, xv, s, f⟩⟩, ⟨q0, q1, q2, q3⟩, r0, r1⟩
    obtain ⟨zs, hzl, hz⟩ : ∃ zs : List Cel, zs.length = len ∧ ∀ i z, zs[i]? = some z → ItAt W (ad.add (i * 4)) z.p z.q z.x.s z.x.f ∧ RB W z.p.1 z.p.2.1 z.p.2.2 z.x.k ∧ RB W z.q.1 z.q.2.1 z.q.2.2 z.x.v := by
      refine ⟨(List.range len).map fun i => if hi : i < len then (key i hi).choose else ⟨(none, 0, 0), (none, 0, 0), ⟨[], [], 0, 0⟩⟩, by simp, fun i z hz => ?_⟩
      have hil : i < len := by have := (List.getElem?_eq_some_iff.1 hz).1; simpa using this
      rw [List.getElem?_map, List.getElem?_range hil] at hz
      simp only [Option.map_some] at hz
      rw [dif_pos hil] at hz
      cases hz
      exact (key i hil).choose_spec
    subst hzl
    refine ⟨itvs zs, its zs, RT.mk_of zs ⟨by rw [itvs_length], hl, hm, (fun e => by cases e), fun ad' e j u hu => ?_⟩ (fun z hm => ?_)⟩
    · cases e
      obtain ⟨i, z, hk, hc⟩ := itvs_cases _ j u hu
      obtain ⟨⟨q0, q1, q2, q3⟩, -, -⟩ := hz i z hk
      rcases hc with ⟨rfl, rfl⟩ | ⟨rfl, rfl⟩ | ⟨rfl, rfl⟩ | ⟨rfl, rfl⟩
      · exact q0
      · rw [add_more]; exact q1
      · rw [add_more]; exact q2
      · rw [add_more]; exact q3
    · obtain ⟨i, hi⟩ := List.getElem?_of_mem hm
      exact (hz i z hi).2
end Go.Proofs.Ytieoleiokjoccaa
