/- Lent items written anew. -/
import Derived.Test.YtieoleiokjoccaaGa
namespace Go.Proofs.Ytieoleiokjoccaa
open Go.RowKit

theorem slots_cons (z : Cel) (l : List Cel) : slots (z :: l) = z.p :: z.q :: slots l := rfl
theorem slots_get (l : List Cel) (j : Nat) (z : Cel) (h : l[j]? = some z) : (slots l)[j * 2]? = some z.p ∧ (slots l)[j * 2 + 1]? = some z.q := by
  induction l generalizing j with
  | nil => simp at h
  | cons y l ih =>
    cases j with
    | zero => simp at h; subst h; exact ⟨rfl, rfl⟩
    | succ j =>
      have := ih j (by simpa using h)
      rw [show (j + 1) * 2 = j * 2 + 1 + 1 by omega]
      exact this
theorem slots_ne {l : List Cel} (inc : (slots l).Pairwise Before) {a b : Nat} {s t : Option Addr × Nat × Nat} (hs : (slots l)[a]? = some s) (ht : (slots l)[b]? = some t) (ne : a ≠ b) : Before s t := by
  obtain ⟨la, ea⟩ := List.getElem?_eq_some_iff.1 hs
  obtain ⟨lb, eb⟩ := List.getElem?_eq_some_iff.1 ht
  have hp := List.pairwise_iff_getElem.1 inc
  rcases Nat.lt_or_gt_of_ne ne with h | h
  · have := hp a b la lb h
    rwa [ea, eb] at this
  · have := hp b a lb la h
    rw [ea, eb] at this
    intro x y ex ey e
    exact this y x ey ex e.symm
theorem slots_set {l : List Cel} {i : Nat} {z y : Cel} (h : l[i]? = some z) (hp : y.p = z.p) (hq : y.q = z.q) : slots (l.set i y) = slots l := by
  induction l generalizing i with
  | nil => rfl
  | cons a l ih =>
    cases i with
    | zero => simp at h; subst h; simp only [List.set_cons_zero, slots_cons, hp, hq]
    | succ i => simp only [List.set_cons_succ, slots_cons]; rw [ih (by simpa using h)]
theorem itvs_set {l : List Cel} {i : Nat} {z y : Cel} (h : l[i]? = some z) (hp : y.p = z.p) (hq : y.q = z.q) (hs : y.x.s = z.x.s) (hf : y.x.f = z.x.f) : itvs (l.set i y) = itvs l := by
  induction l generalizing i with
  | nil => rfl
  | cons a l ih =>
    cases i with
    | zero => simp at h; subst h; simp only [List.set_cons_zero, itvs, hp, hq, hs, hf]
    | succ i => simp only [List.set_cons_succ, itvs]; rw [ih (by simpa using h)]
def Cel.key (z : Cel) (k : List UInt8) : Cel := ⟨z.p, z.q, ⟨k, z.x.v, z.x.s, z.x.f⟩⟩
def Cel.val (z : Cel) (v : List UInt8) : Cel := ⟨z.p, z.q, ⟨z.x.k, v, z.x.s, z.x.f⟩⟩
theorem Mk1.away {w w' : World} {base g : Nat} {p : Option Addr × Nat × Nat} {k mk : List UInt8} (h : Mk1 w base p k mk) (gx : w.grownBy w' (some g)) (hne : ∀ a, p.1 = some a → a.block ≠ g) : Mk1 w' base p k mk := by
  obtain ⟨g1, c1, rfl, hb, o⟩ := h
  have := hne _ rfl
  exact ⟨g1, c1, rfl, hb, o.same (Sm.of_grown gx o.lt (by simp only [ne_eq, Option.some.injEq]; exact this))⟩
/-- One key written anew, of the same length. -/
theorem LX.putK {w w' : World} {base R n c i g cg : Nat} {zs : List Cel} {z : Cel} {k : List UInt8} (h : LX w base R n c zs) (hz : zs[i]? = some z) (hp : z.p = (some ⟨g, 0, none⟩, z.x.k.length, cg)) (hk : k.length = z.x.k.length) (gx : w.grownBy w' (some g)) (o : OB w' g (k.length + 2) cg (k ++ [161, 162])) : LX w' base R n c (zs.set i (z.key k)) := by
  obtain ⟨⟨g0, c0, e0, hb, o0⟩, hv⟩ := h.each z (List.mem_of_getElem? hz)
  rw [hp] at e0
  cases e0
  have sp := slots_get zs i z hz
  refine ⟨by rw [List.length_set]; exact h.cnt, ?_, h.low, ?_, by rw [slots_set (y := z.key k) hz rfl rfl]; exact h.inc⟩
  · rw [itvs_set (y := z.key k) hz rfl rfl rfl rfl]
    exact h.row.same (Sm.of_grown gx h.row.lt (by
      simp only [ne_eq, Option.some.injEq]
      rintro rfl
      exact absurd (OC.tyy h.row o0) (by decide)))
  · intro y hy
    obtain ⟨j, hj⟩ := List.getElem?_of_mem hy
    rw [List.getElem?_set] at hj
    by_cases hij : i = j
    · rw [if_pos hij] at hj
      split at hj
      · cases hj
        refine ⟨⟨g, cg, by show z.p = (_, k.length, _); rw [hp, hk], hb, o⟩, ?_⟩
        exact hv.away gx (fun a ea e => slots_ne h.inc sp.1 sp.2 (by omega) ⟨g, 0, none⟩ a (by rw [hp]) ea e.symm)
      · cases hj
    · rw [if_neg hij] at hj
      have sj := slots_get zs j y hj
      have hm := h.each y (List.mem_of_getElem? hj)
      exact ⟨hm.1.away gx (fun a ea e => slots_ne h.inc sp.1 sj.1 (by omega) ⟨g, 0, none⟩ a (by rw [hp]) ea e.symm), hm.2.away gx (fun a ea e => slots_ne h.inc sp.1 sj.2 (by omega) ⟨g, 0, none⟩ a (by rw [hp]) ea e.symm)⟩
theorem LX.putV {w w' : World} {base R n c i g cg : Nat} {zs : List Cel} {z : Cel} {v : List UInt8} (h : LX w base R n c zs) (hz : zs[i]? = some z) (hp : z.q = (some ⟨g, 0, none⟩, z.x.v.length, cg)) (hk : v.length = z.x.v.length) (gx : w.grownBy w' (some g)) (o : OB w' g (v.length + 2) cg (v ++ [163, 164])) : LX w' base R n c (zs.set i (z.val v)) := by
  obtain ⟨hv, ⟨g0, c0, e0, hb, o0⟩⟩ := h.each z (List.mem_of_getElem? hz)
  rw [hp] at e0
  cases e0
  have sp := slots_get zs i z hz
  refine ⟨by rw [List.length_set]; exact h.cnt, ?_, h.low, ?_, by rw [slots_set (y := z.val v) hz rfl rfl]; exact h.inc⟩
  · rw [itvs_set (y := z.val v) hz rfl rfl rfl rfl]
    exact h.row.same (Sm.of_grown gx h.row.lt (by
      simp only [ne_eq, Option.some.injEq]
      rintro rfl
      exact absurd (OC.tyy h.row o0) (by decide)))
  · intro y hy
    obtain ⟨j, hj⟩ := List.getElem?_of_mem hy
    rw [List.getElem?_set] at hj
    by_cases hij : i = j
    · rw [if_pos hij] at hj
      split at hj
      · cases hj
        refine ⟨?_, ⟨g, cg, by show z.q = (_, v.length, _); rw [hp, hk], hb, o⟩⟩
        exact hv.away gx (fun a ea e => slots_ne h.inc sp.2 sp.1 (by omega) ⟨g, 0, none⟩ a (by rw [hp]) ea e.symm)
      · cases hj
    · rw [if_neg hij] at hj
      have sj := slots_get zs j y hj
      have hm := h.each y (List.mem_of_getElem? hj)
      exact ⟨hm.1.away gx (fun a ea e => slots_ne h.inc sp.2 sj.1 (by omega) ⟨g, 0, none⟩ a (by rw [hp]) ea e.symm), hm.2.away gx (fun a ea e => slots_ne h.inc sp.2 sj.2 (by omega) ⟨g, 0, none⟩ a (by rw [hp]) ea e.symm)⟩
/-- The same cells, the lists of the same lengths. -/
def LikeC (a b : List Cel) : Prop := a.length = b.length ∧ ∀ (i : Nat) (z y : Cel), a[i]? = some z → b[i]? = some y → z.p = y.p ∧ z.q = y.q ∧ z.x.k.length = y.x.k.length ∧ z.x.v.length = y.x.v.length ∧ z.x.s = y.x.s ∧ z.x.f = y.x.f
theorem LikeC.refl (a : List Cel) : LikeC a a := ⟨rfl, fun i z y h1 h2 => by rw [h1] at h2; cases h2; exact ⟨rfl, rfl, rfl, rfl, rfl, rfl⟩⟩
theorem LikeC.set {a b : List Cel} (h : LikeC a b) {i : Nat} {z y : Cel} (hz : a[i]? = some z) (hp : y.p = z.p) (hq : y.q = z.q) (hk : y.x.k.length = z.x.k.length) (hv : y.x.v.length = z.x.v.length) (hs : y.x.s = z.x.s) (hf : y.x.f = z.x.f) : LikeC (a.set i y) b := by
  refine ⟨by rw [List.length_set]; exact h.1, fun j u t h1 h2 => ?_⟩
  rw [List.getElem?_set] at h1
  by_cases hij : i = j
  · subst hij
    rw [if_pos rfl] at h1
    split at h1
    · cases h1
      obtain ⟨e1, e2, e3, e4, e5, e6⟩ := h.2 i z t hz h2
      exact ⟨hp.trans e1, hq.trans e2, hk.trans e3, hv.trans e4, hs.trans e5, hf.trans e6⟩
    · cases h1
  · rw [if_neg hij] at h1
    exact h.2 j u t h1 h2
theorem LX.at_ {w : World} {base R n c : Nat} {zs : List Cel} (h : LX w base R n c zs) (i : Nat) (hi : i < n) : ∃ (z : Cel) (g cg g' cg' : Nat), zs[i]? = some z ∧ z.p = (some ⟨g, 0, none⟩, z.x.k.length, cg) ∧ z.q = (some ⟨g', 0, none⟩, z.x.v.length, cg') ∧ base ≤ g ∧ base ≤ g' ∧ OB w g (z.x.k.length + 2) cg (z.x.k ++ [161, 162]) ∧ OB w g' (z.x.v.length + 2) cg' (z.x.v ++ [163, 164]) ∧ ItAt w ⟨R, i * 4, none⟩ z.p z.q z.x.s z.x.f := by
  have hz : zs[i]? = some (zs[i]'(by rw [h.cnt]; exact hi)) := List.getElem?_eq_getElem _
  obtain ⟨⟨g, cg, e1, b1, o1⟩, ⟨g', cg', e2, b2, o2⟩⟩ := h.each _ (List.mem_of_getElem? hz)
  have il : i * 4 + 3 < (itvs zs).length := by rw [itvs_length, h.cnt]; omega
  obtain ⟨q0, q1, q2, q3⟩ := itvs_get zs i _ hz
  have hc := fun j u hu => h.row.read.cell ⟨R, 0, none⟩ rfl j u hu
  refine ⟨_, g, cg, g', cg', hz, e1, e2, b1, b2, o1, o2, ?_, ?_, ?_, ?_⟩
  · have := hc (i * 4) _ ((List.getElem?_append_left (by omega)).trans q0)
    rwa [show (⟨R, 0, none⟩ : Addr).add (i * 4) = ⟨R, i * 4, none⟩ by simp [Addr.add]; omega] at this
  · have := hc (i * 4 + 1) _ ((List.getElem?_append_left (by omega)).trans q1)
    rwa [show (⟨R, 0, none⟩ : Addr).add (i * 4 + 1) = ⟨R, i * 4 + 1, none⟩ by simp [Addr.add]] at this
  · have := hc (i * 4 + 2) _ ((List.getElem?_append_left (by omega)).trans q2)
    rwa [show (⟨R, 0, none⟩ : Addr).add (i * 4 + 2) = ⟨R, i * 4 + 2, none⟩ by simp [Addr.add]] at this
  · have := hc (i * 4 + 3) _ ((List.getElem?_append_left (by omega)).trans q3)
    rwa [show (⟨R, 0, none⟩ : Addr).add (i * 4 + 3) = ⟨R, i * 4 + 3, none⟩ by simp [Addr.add]] at this
theorem LX.last {w : World} {base R n c : Nat} {zs : List Cel} (h : LX w base R n c zs) : w.cell? ⟨R, n * 4, none⟩ = some (.slice none 0 0) ∧ w.cell? ⟨R, n * 4 + 2, none⟩ = some (.int .i64 (-77)) := by
  have hc := fun j u hu => h.row.read.cell ⟨R, 0, none⟩ rfl j u hu
  have hl : (itvs zs).length = n * 4 := by rw [itvs_length, h.cnt]
  constructor
  · have := hc (n * 4) (.slice none 0 0) (by rw [List.getElem?_append_right (by omega), hl, Nat.sub_self]; rfl)
    rwa [show (⟨R, 0, none⟩ : Addr).add (n * 4) = ⟨R, n * 4, none⟩ by simp [Addr.add]; omega] at this
  · have := hc (n * 4 + 2) (.int .i64 (-77)) (by rw [List.getElem?_append_right (by omega), hl, Nat.add_sub_cancel_left]; rfl)
    rwa [show (⟨R, 0, none⟩ : Addr).add (n * 4 + 2) = ⟨R, n * 4 + 2, none⟩ by simp [Addr.add]] at this

set_option maxRecDepth 100000 in
set_option maxHeartbeats 1000000 in
theorem of_calls (R n c : Nat) (w : World) (hc : n + 1 ≤ c) (hn : n ≤ 2000) :
    Calls Try.prog 15 #[.agg #[.slice (some ⟨R, 0, none⟩) (n + 1) c, .int .i64 (n : Int)]] w fun e w' => e = .returned (.slice (some ⟨R, 0, none⟩) n (n + 1)) ∧ Below w.heap.size w w' := by
  have ba := below1 w (.cells #[.slice (some ⟨R, 0, none⟩) (n + 1) c, .int .i64 (n : Int)] 26)
  have i1 : (n : Int) ≤ (n : Int) + 1 := by omega
  have i2 : (n : Int) + 1 ≤ (c : Int) := by omega
  have i3 : ((n : Int) + 1).toNat = n + 1 := by omega
  go_enter Try.func15, Try.ntmps15
  go_wp2
  go_ret
  exact ⟨rfl, ba⟩
end Go.Proofs.Ytieoleiokjoccaa
/- coppicelaw4.lent.held. -/
namespace Go.Proofs.Ytieoleiokjoccaa
open Go.RowKit

theorem LikeC.at_ {a b : List Cel} (h : LikeC a b) {i : Nat} {y : Cel} (hy : b[i]? = some y) : ∃ z, a[i]? = some z ∧ z.p = y.p ∧ z.q = y.q ∧ z.x.k.length = y.x.k.length ∧ z.x.v.length = y.x.v.length ∧ z.x.s = y.x.s ∧ z.x.f = y.x.f := by
  have hl : i < a.length := by rw [h.1]; exact (List.getElem?_eq_some_iff.1 hy).1
  have hz : a[i]? = some a[i] := List.getElem?_eq_getElem hl
  exact ⟨_, hz, h.2 i _ y hz hy⟩
/-- Only blocks of the lists are written. -/
def Apart (zs : List Cel) (w w' : World) : Prop := ∀ k, k < w.heap.size → (∀ s ∈ slots zs, ∀ a, s.1 = some a → a.block ≠ k) → Sm w w' k
theorem Apart.of_below {zs : List Cel} {w w' : World} (b : Below w.heap.size w w') : Apart zs w w' := fun _ hk _ => Sm.of_below b hk
theorem Apart.step {zs : List Cel} {w0 w w' : World} {g : Nat} {s : Option Addr × Nat × Nat} (h : Apart zs w0 w) (z : w0.heap.size ≤ w.heap.size) (gx : w.grownBy w' (some g)) (hs : s ∈ slots zs) (e : s.1 = some ⟨g, 0, none⟩) : Apart zs w0 w' := fun k hk hn =>
  (h k hk hn).trans (Sm.of_grown gx (Nat.lt_of_lt_of_le hk z) (by simp only [ne_eq, Option.some.injEq]; exact fun q => hn s hs ⟨g, 0, none⟩ e q.symm))
theorem Apart.more {zs : List Cel} {w0 w w' : World} (h : Apart zs w0 w) (z : w0.heap.size ≤ w.heap.size) (b : Below w.heap.size w w') : Apart zs w0 w' := fun k hk hn => (h k hk hn).trans (Sm.of_below b (Nat.lt_of_lt_of_le hk z))
/-- What held keeps while it writes. -/
structure HQ (w : World) (base R n c : Nat) (zs : List Cel) (gb : Nat) (w0 : World) : Prop where
  lx : ∃ zs', LX w base R n c zs' ∧ LikeC zs' zs
  box : OC w 26 2 gb 1 1 [.slice (some ⟨R, 0, none⟩) (n + 1) c, .int .i64 (n : Int)]
  bel : Below base w0 w
  out : Apart zs w0 w
theorem HQ.cells {w w0 : World} {base R n c gb : Nat} {zs : List Cel} (h : HQ w base R n c zs gb w0) {i : Nat} {y : Cel} (hy : zs[i]? = some y) (hi : i < n) : w.cell? ⟨R, i * 4, none⟩ = some (.slice y.p.1 y.p.2.1 y.p.2.2) ∧ w.cell? ⟨R, i * 4 + 1, none⟩ = some (.slice y.q.1 y.q.2.1 y.q.2.2) := by
  obtain ⟨zs', lx, lk⟩ := h.lx
  obtain ⟨z, g, cg, g', cg', hz, e1, e2, -, -, -, -, it⟩ := lx.at_ i hi
  obtain ⟨z', hz', p1, p2, -⟩ := lk.at_ hy
  rw [hz] at hz'
  cases hz'
  rw [← p1, ← p2]
  exact ⟨it.c0, it.c1⟩
theorem HQ.setK {w w0 : World} {base R n c gb : Nat} {zs : List Cel} (h : HQ w base R n c zs gb w0) (hb : base ≤ w0.heap.size) {i j g m cg : Nat} {y : Cel} (hy : zs[i]? = some y) (hi : i < n) (hp : y.p = (some ⟨g, 0, none⟩, m, cg)) (hj : j < m) : w.frozen? ⟨g, j, none⟩ = false ∧ (∃ v : UInt8, w.cell? ⟨g, j, none⟩ = some (.int .u8 (v.toNat : Int))) ∧ HQ (w.setCell ⟨g, j, none⟩ (.int .u8 35)) base R n c zs gb w0 := by
  obtain ⟨zs', lx, lk⟩ := h.lx
  obtain ⟨z, g1, cg1, g', cg', hz, e1, e2, b1, -, o, -, it⟩ := lx.at_ i hi
  obtain ⟨z', hz', p1, p2, p3, p4, p5, p6⟩ := lk.at_ hy
  rw [hz] at hz'
  cases hz'
  rw [p1, hp] at e1
  cases e1
  have o2 := OB.set o j 35
  rw [List.set_append_left _ _ hj] at o2
  have gs := grownBy_set w g j (.int .u8 (((35 : UInt8).toNat : Nat) : Int))
  have lx2 := lx.putK (k := z.x.k.set j 35) hz (p1.trans hp) (by rw [List.length_set]) gs (by rw [List.length_set]; exact o2)
  refine ⟨o.free j, ?_, ⟨_, lx2, lk.set hz rfl rfl (by show (z.x.k.set j 35).length = _; rw [List.length_set]) rfl rfl rfl⟩, h.box.same (Sm.of_grown gs h.box.lt (by
    simp only [ne_eq, Option.some.injEq]
    rintro rfl
    exact absurd (OC.tyy h.box o) (by decide))), blw_own h.bel gs (Nat.le_trans hb h.bel.size) b1, h.out.step h.bel.size gs (slots_mem (List.mem_of_getElem? hy)).1 (by rw [hp])⟩
  have hjl : j < (z.x.k ++ [161, 162]).length := by rw [List.length_append]; omega
  exact ⟨(z.x.k ++ [161, 162])[j], OC.cell o j _ (by unfold u8s; rw [List.getElem?_map, List.getElem?_eq_getElem hjl]; rfl)⟩
theorem HQ.setV {w w0 : World} {base R n c gb : Nat} {zs : List Cel} (h : HQ w base R n c zs gb w0) (hb : base ≤ w0.heap.size) {i j g m cg : Nat} {y : Cel} (hy : zs[i]? = some y) (hi : i < n) (hp : y.q = (some ⟨g, 0, none⟩, m, cg)) (hj : j < m) : w.frozen? ⟨g, j, none⟩ = false ∧ (∃ v : UInt8, w.cell? ⟨g, j, none⟩ = some (.int .u8 (v.toNat : Int))) ∧ HQ (w.setCell ⟨g, j, none⟩ (.int .u8 35)) base R n c zs gb w0 := by
  obtain ⟨zs', lx, lk⟩ := h.lx
  obtain ⟨z, g1, cg1, g', cg', hz, e1, e2, -, b1, -, o, it⟩ := lx.at_ i hi
  obtain ⟨z', hz', p1, p2, p3, p4, p5, p6⟩ := lk.at_ hy
  rw [hz] at hz'
  cases hz'
  rw [p2, hp] at e2
  cases e2
  have o2 := OB.set o j 35
  rw [List.set_append_left _ _ hj] at o2
  have gs := grownBy_set w g j (.int .u8 (((35 : UInt8).toNat : Nat) : Int))
  have lx2 := lx.putV (v := z.x.v.set j 35) hz (p2.trans hp) (by rw [List.length_set]) gs (by rw [List.length_set]; exact o2)
  refine ⟨o.free j, ?_, ⟨_, lx2, lk.set hz rfl rfl rfl (by show (z.x.v.set j 35).length = _; rw [List.length_set]) rfl rfl⟩, h.box.same (Sm.of_grown gs h.box.lt (by
    simp only [ne_eq, Option.some.injEq]
    rintro rfl
    exact absurd (OC.tyy h.box o) (by decide))), blw_own h.bel gs (Nat.le_trans hb h.bel.size) b1, h.out.step h.bel.size gs (slots_mem (List.mem_of_getElem? hy)).2 (by rw [hp])⟩
  have hjl : j < (z.x.v ++ [163, 164]).length := by rw [List.length_append]; omega
  exact ⟨(z.x.v ++ [163, 164])[j], OC.cell o j _ (by unfold u8s; rw [List.getElem?_map, List.getElem?_eq_getElem hjl]; rfl)⟩

set_option maxRecDepth 100000 in
set_option maxHeartbeats 4000000 in
theorem held_calls (base R n c : Nat) (zs : List Cel) (A : Option Addr) (c' : Nat) (vs : List Value) (l : List It) (w : World) (lx : LX w base R n c zs) (hb : base ≤ w.heap.size) (hzl : its zs = l) (h : RT w A n c' vs l) (hn : n ≤ 2000) (hs : ShT l) :
    Calls Try.prog 16 #[.agg #[.slice (some ⟨R, 0, none⟩) (n + 1) c, .int .i64 (n : Int)], .slice A n c'] w fun e w' => ∃ zs', e = .returned (.bool true) ∧ LX w' base R n c zs' ∧ LikeC zs' zs ∧ Below base w w' ∧ Apart zs w w' := by
  have HZL := hideIt hzl
  have LC := hideIt lx.cnt
  have EACH : Hid (∀ (i : Nat) (y : Cel), zs[i]? = some y → ∃ (g a cg g' b cg' : Nat), y.p = (some ⟨g, 0, none⟩, a, cg) ∧ y.q = (some ⟨g', 0, none⟩, b, cg')) := hideIt (fun i y hy => by
    obtain ⟨⟨g, cg, e1, -, -⟩, ⟨g', cg', e2, -, -⟩⟩ := lx.each y (List.mem_of_getElem? hy)
    exact ⟨g, _, cg, g', _, cg', e1, e2⟩)
  have SMALL : Hid (∀ (i : Nat) (y : Cel), zs[i]? = some y → y.p.2.1 ≤ 5000 ∧ y.q.2.1 ≤ 5000) := hideIt (fun i y hy => by
    obtain ⟨⟨g, cg, e1, -, -⟩, ⟨g', cg', e2, -, -⟩⟩ := lx.each y (List.mem_of_getElem? hy)
    have hm : y.x ∈ l := by rw [← hzl]; exact List.mem_map_of_mem (List.mem_of_getElem? hy)
    have := hs.s _ hm
    rw [e1, e2]
    exact this)
  have HS := hideIt hs.s
  have hc := OC.le lx.row
  have i1 : (n : Int) ≤ (c : Int) := by omega
  have i2 : (n : Int) < (n : Int) + 1 := by omega
  have ba := below1 w (.cells #[.slice (some ⟨R, 0, none⟩) (n + 1) c, .int .i64 (n : Int)] 26)
  have bx : OC (w.alloc (.cells #[.slice (some ⟨R, 0, none⟩) (n + 1) c, .int .i64 (n : Int)] 26)) 26 2 w.heap.size 1 1 [.slice (some ⟨R, 0, none⟩) (n + 1) c, .int .i64 (n : Int)] := OC.mk rfl _ (heap_alloc_new w _) (Nat.le_refl _) (by rw [maxLen_is]; omega) rfl rfl
  have lx1 := lx.below ba
  have h1 := h.below ba
  have b1 : Below base w _ := ba.mono hb
  have SI := SameItems_calls _ _ _ _ _ _ _ _ _ _ _ (lx1.read (show n ≤ c by omega) (Nat.le_refl c)) h1 true (by simp [HZL.out])
  have bw1 := ba
  clear hzl hs h lx ba
  go_enter Try.func16, Try.ntmps16
  go_upto_region 1 with fail
  generalize w.alloc (.cells #[.slice (some ⟨R, 0, none⟩) (n + 1) c, .int .i64 (n : Int)] 26) = w1 at bx lx1 h1 b1 bw1 SI ⊢
  obtain ⟨y0, y1⟩ := bx.lent2
  go_upto_region 2 with (go_at_call 26; (with_reducible refine SI.mono ?_); rintro en w2 ⟨rfl, x2⟩; have bx2 := bx.below x2; have lx2 := lx1.below x2; obtain ⟨u0, u1⟩ := bx2.lent2; obtain ⟨v0, v2⟩ := lx2.last)
  have h2 := h1.below x2
  have b2 : Below base w w2 := b1.trans (x2.mono (Nat.le_trans hb b1.size))
  have ap2 : Apart zs w w2 := Apart.of_below (blw_step bw1 x2)
  clear v0 v2 y0 y1 SI bx lx1 h1 b1 x2 bw1
  go_wp2
  go_loop [5, 6] (fun oo ii => ∃ i, i ≤ n ∧ oo = .bool true ∧ ii = .int .i64 (i : Int)) (fun _ ii => n - (intOf ii).toNat)
  case atStart => exact ⟨0, by omega, rfl, rfl⟩
  case round =>
    obtain ⟨i, hi, rfl, rfl⟩ := hrel
    by_cases hlt : i < n
    · obtain ⟨ad, ⟨P1, n1, c1⟩, ⟨P3, n3, d3⟩, x, rfl, hx, it, rk, rv⟩ := h2.row i hlt
      obtain ⟨k0, k1, -, -⟩ := it
      simp only at k0 k1 rk rv
      obtain ⟨z, g, cg, g', cg', hz, e1, e2, b1', b2', o1, o2, itz⟩ := lx2.at_ i hlt
      obtain ⟨q0, q1, -, -⟩ := itz
      have zx : z.x = x := by
        have h1 := congrArg (fun m => m[i]?) HZL.out
        simp only [its, List.getElem?_map, hz, hx, Option.map_some, Option.some.injEq] at h1
        exact h1
      have hs2 := HS.out x (List.mem_of_getElem? hx)
      rw [rk.len, rv.len] at hs2
      rw [e1] at q0
      rw [e2] at q1
      rw [zx, rk.len] at q0 o1
      rw [zx, rv.len] at q1 o2
      simp only at q0 q1
      have kl := rk.len
      have vl' := rv.len
      have m0 := OC.cell o1 n1 (.int .u8 161) (by rw [u8s_append, List.getElem?_append_right (by rw [u8s_length, kl]; exact Nat.le_refl _), u8s_length, kl, Nat.sub_self]; rfl)
      have m1 := OC.cell o1 (n1 + 1) (.int .u8 162) (by rw [u8s_append, List.getElem?_append_right (by rw [u8s_length, kl]; omega), u8s_length, kl, Nat.add_sub_cancel_left]; rfl)
      have m2 := OC.cell o2 n3 (.int .u8 163) (by rw [u8s_append, List.getElem?_append_right (by rw [u8s_length, vl']; exact Nat.le_refl _), u8s_length, vl', Nat.sub_self]; rfl)
      have m3 := OC.cell o2 (n3 + 1) (.int .u8 164) (by rw [u8s_append, List.getElem?_append_right (by rw [u8s_length, vl']; omega), u8s_length, vl', Nat.add_sub_cancel_left]; rfl)
      have l1 := OC.le o1
      have l2 := OC.le o2
      have j1 : (i : Int) < (n : Int) := by omega
      have j1b : (i : Int) < (n : Int) + 1 := by omega
      have j2 : (n1 : Int) + 2 ≤ (cg : Int) := by omega
      have j3 : (n3 : Int) + 2 ≤ (cg' : Int) := by omega
      have j4 : ((n1 : Int) + 2).toNat = n1 + 2 := by omega
      have j5 : ((n3 : Int) + 2).toNat = n3 + 2 := by omega
      have j6 : ((n1 : Int) + 1).toNat = n1 + 1 := by omega
      have j7 : ((n3 : Int) + 1).toNat = n3 + 1 := by omega
      have j8 : (n1 : Int) < (n1 : Int) + 2 := by omega
      have j9 : (n3 : Int) < (n3 : Int) + 2 := by omega
      have ja : (n1 : Int) + 1 < (n1 : Int) + 2 := by omega
      have jb : (n3 : Int) + 1 < (n3 : Int) + 2 := by omega
      clear hx hz zx rk rv kl vl' e1 e2 o1 o2
      go_wp2
      go_round
      case rel => exact ⟨i + 1, by omega, rfl, by go_num⟩
      case measure => simp [intOf]; omega
    · obtain rfl : n = i := by omega
      have HQ0 : HQ w2 base R n c zs w.heap.size w := ⟨⟨zs, lx2, LikeC.refl _⟩, bx2, b2, ap2⟩
      clear lx2 bx2 b2 h2 ap2
      go_wp2
      clear u0 u1
      go_loopw [11] (fun ii wr => ∃ i, i ≤ n ∧ ii = .int .i64 (i : Int) ∧ HQ wr base R n c zs w.heap.size w) (fun ii _ => n - (intOf ii).toNat)
      case atStart => exact ⟨0, by omega, rfl, HQ0⟩
      case round =>
        clear HQ0
        obtain ⟨i, hi, rfl, hq⟩ := hrel
        obtain ⟨u0, u1⟩ := hq.box.lent2
        by_cases hlt : i < n
        · have j1 : (i : Int) < (n : Int) := by omega
          obtain ⟨y, hy⟩ : ∃ y, zs[i]? = some y := ⟨_, List.getElem?_eq_getElem (by rw [LC.out]; exact hlt)⟩
          obtain ⟨g, a, cg, g', b, cg', e1, e2⟩ := EACH.out i y hy
          have HY := hideIt hy
          have HE1 := hideIt e1
          have HE2 := hideIt e2
          clear hy e1 e2
          go_wp2
          clear u0 u1
          go_loopw [12] (fun jj wk => ∃ j : Nat, jj = .int .i64 (j : Int) ∧ j ≤ a ∧ HQ wk base R n c zs w.heap.size w) (fun jj _ => a - (intOf jj).toNat)
          case atStart => exact ⟨0, rfl, Nat.zero_le _, hq⟩
          case round =>
            clear hq
            obtain ⟨j, rfl, hja, hq⟩ := hrel
            obtain ⟨u0, u1⟩ := hq.box.lent2
            obtain ⟨q0, q1⟩ := hq.cells HY.out hlt
            rw [HE1.out] at q0
            rw [HE2.out] at q1
            simp only at q0 q1
            have j1b : (i : Int) < (n : Int) + 1 := by omega
            by_cases hj : j < a
            · obtain ⟨fr, ⟨v, cv⟩, hq2⟩ := hq.setK hb HY.out hlt HE1.out hj
              have j2 : (j : Int) < (a : Int) := by omega
              have al : a ≤ 9223372036854775807 := by have := SMALL.out i y HY.out; rw [HE1.out] at this; simp only at this; omega
              go_wp2
              go_roundw
              case rel => exact ⟨j + 1, by go_num, by omega, hq2⟩
              case measure => simp [intOf]; omega
            · obtain rfl : a = j := by omega
              go_wp2
              clear u0 u1 q0 q1
              go_loopw [13] (fun jj wk => ∃ j : Nat, jj = .int .i64 (j : Int) ∧ j ≤ b ∧ HQ wk base R n c zs w.heap.size w) (fun jj _ => b - (intOf jj).toNat)
              case atStart => exact ⟨0, rfl, Nat.zero_le _, hq⟩
              case round =>
                clear hq
                obtain ⟨j, rfl, hjb, hq⟩ := hrel
                obtain ⟨u0, u1⟩ := hq.box.lent2
                obtain ⟨q0, q1⟩ := hq.cells HY.out hlt
                rw [HE1.out] at q0
                rw [HE2.out] at q1
                simp only at q0 q1
                by_cases hj : j < b
                · obtain ⟨fr, ⟨v, cv⟩, hq2⟩ := hq.setV hb HY.out hlt HE2.out hj
                  have j2 : (j : Int) < (b : Int) := by omega
                  have al : b ≤ 9223372036854775807 := by have := SMALL.out i y HY.out; rw [HE2.out] at this; simp only at this; omega
                  go_wp2
                  go_roundw
                  case rel => exact ⟨j + 1, by go_num, by omega, hq2⟩
                  case measure => simp [intOf]; omega
                · obtain rfl : b = j := by omega
                  go_wp2
                  go_roundw
                  case rel => exact ⟨i + 1, by omega, by go_num, hq⟩
                  case measure => simp [intOf]; omega
        · obtain rfl : n = i := by omega
          go_wp2
          go_ret
          obtain ⟨zs', lx, lk⟩ := hq.lx
          exact ⟨zs', rfl, lx, lk, hq.bel, hq.out⟩
end Go.Proofs.Ytieoleiokjoccaa
/- coppicelaw4.turned, lent.again. -/
namespace Go.Proofs.Ytieoleiokjoccaa
open Go.RowKit

/-- Lists of the same lengths, the same numbers. -/
def SameL (a b : List It) : Prop := a.length = b.length ∧ ∀ (i : Nat) (x y : It), a[i]? = some x → b[i]? = some y → x.k.length = y.k.length ∧ x.v.length = y.v.length ∧ x.s = y.s ∧ x.f = y.f
theorem SameL.refl (a : List It) : SameL a a := ⟨rfl, fun i z y h1 h2 => by rw [h1] at h2; cases h2; exact ⟨rfl, rfl, rfl, rfl⟩⟩
theorem SameL.short {a b : List It} (h : SameL a b) (hs : ShT b) : ShT a := ⟨fun x hx => by
  obtain ⟨i, hi⟩ := List.getElem?_of_mem hx
  have hl : i < b.length := by rw [← h.1]; exact (List.getElem?_eq_some_iff.1 hi).1
  have hb : b[i]? = some b[i] := List.getElem?_eq_getElem hl
  obtain ⟨e1, e2, -, -⟩ := h.2 i x _ hi hb
  have := hs.s _ (List.mem_of_getElem? hb)
  rw [e1, e2]; exact this⟩
theorem OT.at_ {w : World} {base R n c : Nat} {zs : List Cel} (h : OT w base (some ⟨R, 0, none⟩) n c zs) (i : Nat) (hi : i < n) : ∃ z, zs[i]? = some z ∧ ItAt w ⟨R, i * 4, none⟩ z.p z.q z.x.s z.x.f ∧ GB w base z.p.1 z.p.2.1 z.p.2.2 z.x.k ∧ GB w base z.q.1 z.q.2.1 z.q.2.2 z.x.v := by
  have hz : zs[i]? = some (zs[i]'(by rw [h.n]; exact hi)) := List.getElem?_eq_getElem _
  obtain ⟨q0, q1, q2, q3⟩ := itvs_get zs i _ hz
  have hc := fun j u hu => (GC.read h.row).cell ⟨R, 0, none⟩ rfl j u hu
  have hm := h.each _ (List.mem_of_getElem? hz)
  refine ⟨_, hz, ⟨?_, ?_, ?_, ?_⟩, hm.1, hm.2⟩
  · have := hc (i * 4) _ q0
    rwa [show (⟨R, 0, none⟩ : Addr).add (i * 4) = ⟨R, i * 4, none⟩ by simp [Addr.add]; omega] at this
  · have := hc (i * 4 + 1) _ q1
    rwa [show (⟨R, 0, none⟩ : Addr).add (i * 4 + 1) = ⟨R, i * 4 + 1, none⟩ by simp [Addr.add]] at this
  · have := hc (i * 4 + 2) _ q2
    rwa [show (⟨R, 0, none⟩ : Addr).add (i * 4 + 2) = ⟨R, i * 4 + 2, none⟩ by simp [Addr.add]] at this
  · have := hc (i * 4 + 3) _ q3
    rwa [show (⟨R, 0, none⟩ : Addr).add (i * 4 + 3) = ⟨R, i * 4 + 3, none⟩ by simp [Addr.add]] at this
theorem GB.away {w w' : World} {base n c g : Nat} {A : Option Addr} {xs : List UInt8} (h : GB w base A n c xs) (gx : w.grownBy w' (some g)) (hne : ∀ a, A = some a → a.block ≠ g) : GB w' base A n c xs :=
  GC.same h (fun ad e => Sm.of_grown gx (h.lt ad e).1 (by have := hne ad e; simp only [ne_eq, Option.some.injEq]; exact this))
theorem OT.turnK {w : World} {base R n c i j g m cg : Nat} {zs : List Cel} {z : Cel} (h : OT w base (some ⟨R, 0, none⟩) n c zs) (hz : zs[i]? = some z) (hp : z.p = (some ⟨g, 0, none⟩, m, cg)) (o : OB w g m cg z.x.k) (hb : base ≤ g) (b : UInt8) :
    OT (w.setCell ⟨g, j, none⟩ (.int .u8 (b.toNat : Int))) base (some ⟨R, 0, none⟩) n c (zs.set i (z.key (z.x.k.set j b))) := by
  have sp := slots_get zs i z hz
  have gx := grownBy_set w g j (.int .u8 (b.toNat : Int))
  have o2 := OB.set o j b
  refine ⟨?_, ?_, by rw [slots_set (y := z.key (z.x.k.set j b)) hz rfl rfl]; exact h.inc⟩
  · rw [itvs_set (y := z.key (z.x.k.set j b)) hz rfl rfl rfl rfl]
    rcases GC.oc h.row with ⟨e, _⟩ | ⟨g1, e, hb1, o1⟩
    · cases e
    · cases e
      exact GC.of (o1.same (Sm.of_grown gx o1.lt (by
        simp only [ne_eq, Option.some.injEq]
        rintro rfl
        exact absurd (OC.tyy o1 o) (by decide)))) hb1
  · intro y hy
    obtain ⟨q, hq⟩ := List.getElem?_of_mem hy
    rw [List.getElem?_set] at hq
    by_cases hij : i = q
    · rw [if_pos hij] at hq
      split at hq
      · cases hq
        refine ⟨?_, ?_⟩
        · show GB _ base z.p.1 z.p.2.1 z.p.2.2 (z.x.k.set j b)
          rw [hp]
          exact GB.of o2 hb
        · exact (h.each z (List.mem_of_getElem? hz)).2.away gx (fun a ea e => slots_ne h.inc sp.1 sp.2 (by omega) ⟨g, 0, none⟩ a (by rw [hp]) ea e.symm)
      · cases hq
    · rw [if_neg hij] at hq
      have sj := slots_get zs q y hq
      have hm := h.each y (List.mem_of_getElem? hq)
      exact ⟨hm.1.away gx (fun a ea e => slots_ne h.inc sp.1 sj.1 (by omega) ⟨g, 0, none⟩ a (by rw [hp]) ea e.symm), hm.2.away gx (fun a ea e => slots_ne h.inc sp.1 sj.2 (by omega) ⟨g, 0, none⟩ a (by rw [hp]) ea e.symm)⟩
theorem sameL_set {zs : List Cel} {l : List It} {i : Nat} {z : Cel} {k : List UInt8} (hl : its zs = l) (hz : zs[i]? = some z) (hk : k.length = z.x.k.length) : SameL (its (zs.set i (z.key k))) l := by
  subst hl
  refine ⟨by simp [its], fun j x y h1 h2 => ?_⟩
  unfold its at h1 h2
  rw [List.getElem?_map, List.getElem?_set] at h1
  rw [List.getElem?_map] at h2
  by_cases hij : i = j
  · subst hij
    rw [if_pos rfl] at h1
    rw [hz] at h2
    split at h1
    · cases h1; cases h2
      exact ⟨hk, rfl, rfl, rfl⟩
    · cases h1
  · rw [if_neg hij] at h1
    rw [h1] at h2
    cases h2
    exact ⟨rfl, rfl, rfl, rfl⟩

set_option maxRecDepth 100000 in
set_option maxHeartbeats 4000000 in
theorem turned_calls (A : Option Addr) (n c : Nat) (vs : List Value) (l : List It) (ii : Int) (w : World) (h : RT w A n c vs l) (hn : n ≤ 2000) (hs : ShT l) (_hii : -9223372036854775808 ≤ ii ∧ ii ≤ 9223372036854775807) :
    Calls Try.prog 18 #[.slice A n c, .int .i64 ii] w fun e w' => ∃ (g c' : Nat) (zs : List Cel), e = .returned (.slice (some ⟨g, 0, none⟩) n c') ∧ OT w' w.heap.size (some ⟨g, 0, none⟩) n c' zs ∧ SameL (its zs) l ∧ Below w.heap.size w w' := by
  have IT := Items_calls A n c vs l w h hn hs
  have HS := hideIt hs.s
  clear h hs
  go_enter Try.func18, Try.ntmps18
  go_upto_region 2 with (go_at_call 40; (with_reducible refine IT.mono ?_); rintro en w1 ⟨g, c1, zs, rfl, ot, hz, b1⟩)
  clear IT
  rcases Nat.eq_zero_or_pos n with h0 | h0
  · subst h0
    go_wp2
    go_ret
    exact ⟨g, c1, zs, rfl, ot, (by rw [hz]; exact SameL.refl _), b1⟩
  · have t0 : ((n : Int) == 0) = false := beq_eq_false_iff_ne.2 (by omega)
    obtain ⟨r, q, hr, hr1, hr2, hq, hqn⟩ := place ii n h0
    have hq' : (r + (n : Int)) % (n : Int) = (q : Int) := by rw [← hq]; simp
    have q0 : (q : Int) < (n : Int) := by omega
    obtain ⟨z, hzq, it, gk, gv⟩ := ot.at_ q hqn
    obtain ⟨⟨P, m, cp⟩, qz, x⟩ := z
    obtain ⟨i0, -, -, -⟩ := it
    simp only at i0 gk gv
    have hm : x ∈ l := by rw [← hz]; exact List.mem_map_of_mem (List.mem_of_getElem? hzq)
    have ml : m ≤ 5000 := by have := HS.out x hm; have h2 := (GB.read gk).len; omega
    have HQ := hideIt hq
    have HZQ := hideIt hzq
    have HZ := hideIt hz
    clear hq hzq hz gv hm
    rcases Nat.eq_zero_or_pos m with hm0 | hm0
    · subst hm0
      clear gk
      go_wp2
      go_ret
      exact ⟨g, c1, zs, rfl, ot, (by rw [HZ.out]; exact SameL.refl _), b1⟩
    · rcases GC.oc gk with ⟨_, e, _⟩ | ⟨g1, rfl, hb, o⟩
      · omega
      · have hl : x.k.length = m := OB.len o
        have hj : m - 1 < x.k.length := by omega
        obtain ⟨b, hb0⟩ : ∃ b, x.k[m - 1] = b := ⟨_, rfl⟩
        have cb := OC.cell o (m - 1) (.int .u8 (b.toNat : Int)) (by unfold u8s; rw [List.getElem?_map, List.getElem?_eq_getElem hj, hb0]; rfl)
        have fr := OB.free o (m - 1)
        have ot2 := ot.turnK (j := m - 1) HZQ.out rfl o hb (b ^^^ 1)
        have bx := bits_xor8 b 1
        rw [show ((1 : UInt8).toNat : Int) = 1 from rfl] at bx
        rw [← bx] at ot2
        have b2 : Below w.heap.size w (w1.setCell ⟨g1, m - 1, none⟩ (.int .u8 (bits .xor .u8 (b.toNat : Int) 1))) := blw_own b1 (grownBy_set w1 g1 (m - 1) _) b1.size hb
        have sl := sameL_set (k := x.k.set (m - 1) (b ^^^ 1)) HZ.out HZQ.out (by rw [List.length_set])
        have j1 : (0 : Int) < (m : Int) := by omega
        have j2 : ((m : Int) - 1).toNat = m - 1 := by omega
        have j3 : (0 : Int) ≤ (m : Int) - 1 := by omega
        have j4 : (m : Int) - 1 < (m : Int) := by omega
        clear gk hl hj hb0 bx
        go_wp2
        go_ret
        exact ⟨g, c1, rfl, _, ot2, sl, b2⟩
end Go.Proofs.Ytieoleiokjoccaa
/- coppicelaw4.lent.again. -/
namespace Go.Proofs.Ytieoleiokjoccaa
open Go.RowKit

theorem Apart.likeStep {zs0 zs : List Cel} {w0 w w' : World} {g i m1 m2 c1 c2 : Nat} {z : Cel} (h : Apart zs0 w0 w) (lk : LikeC zs zs0) (hz : zs[i]? = some z) (zz : w0.heap.size ≤ w.heap.size) (gx : w.grownBy w' (some g)) (e : z.p = (some ⟨g, 0, none⟩, m1, c1) ∨ z.q = (some ⟨g, 0, none⟩, m2, c2)) : Apart zs0 w0 w' := by
  have hl : i < zs0.length := by rw [← lk.1]; exact (List.getElem?_eq_some_iff.1 hz).1
  have h0 : zs0[i]? = some zs0[i] := List.getElem?_eq_getElem hl
  obtain ⟨p1, p2, -⟩ := lk.2 i z _ hz h0
  have hm := slots_mem (List.mem_of_getElem? h0)
  rcases e with e | e
  · exact h.step zz gx hm.1 (by rw [← p1, e])
  · exact h.step zz gx hm.2 (by rw [← p2, e])
structure HA (w : World) (base R n c : Nat) (zs0 ys : List Cel) (base2 g2 c2 gb : Nat) (w0 : World) (zs : List Cel) : Prop where
  lx : LX w base R n c zs
  lk : LikeC zs zs0
  ot : OT w base2 (some ⟨g2, 0, none⟩) n c2 ys
  box : OC w 26 2 gb 1 1 [.slice (some ⟨R, 0, none⟩) (n + 1) c, .int .i64 (n : Int)]
  bel : Below base w0 w
  out : Apart zs0 w0 w
theorem HA.drew {w w0 : World} {base R n c base2 g2 c2 gb : Nat} {zs0 ys zs : List Cel} (h : HA w base R n c zs0 ys base2 g2 c2 gb w0 zs) : HA w.drew base R n c zs0 ys base2 g2 c2 gb w0 zs :=
  ⟨h.lx.below (drew1 w), h.lk, h.ot.below (drew1 w), h.box.below (drew1 w), h.bel.drew, h.out.more h.bel.size (drew1 w)⟩
theorem HA.copyK {w w' w0 : World} {base R n c base2 g2 c2 gb i g cg : Nat} {zs0 ys zs : List Cel} {z : Cel} {k : List UInt8} (h : HA w base R n c zs0 ys base2 g2 c2 gb w0 zs) (hb : base ≤ w0.heap.size) (hz : zs[i]? = some z) (hp : z.p = (some ⟨g, 0, none⟩, z.x.k.length, cg)) (hk : k.length = z.x.k.length) (gx : w.grownBy w' (some g)) (o : OB w' g (k.length + 2) cg (k ++ [161, 162])) (hlt : g < base2) (hg : base ≤ g) (o0 : OB w g (z.x.k.length + 2) cg (z.x.k ++ [161, 162])) :
    HA w' base R n c zs0 ys base2 g2 c2 gb w0 (zs.set i (z.key k)) :=
  ⟨h.lx.putK hz hp hk gx o, h.lk.set hz rfl rfl hk rfl rfl rfl, h.ot.grown_lt gx hlt, h.box.same (Sm.of_grown gx h.box.lt (by
    simp only [ne_eq, Option.some.injEq]
    rintro rfl
    exact absurd (OC.tyy h.box o0) (by decide))), blw_own h.bel gx (Nat.le_trans hb h.bel.size) hg, h.out.likeStep h.lk hz h.bel.size gx (m2 := 0) (c2 := 0) (Or.inl hp)⟩
theorem HA.copyV {w w' w0 : World} {base R n c base2 g2 c2 gb i g cg : Nat} {zs0 ys zs : List Cel} {z : Cel} {k : List UInt8} (h : HA w base R n c zs0 ys base2 g2 c2 gb w0 zs) (hb : base ≤ w0.heap.size) (hz : zs[i]? = some z) (hp : z.q = (some ⟨g, 0, none⟩, z.x.v.length, cg)) (hk : k.length = z.x.v.length) (gx : w.grownBy w' (some g)) (o : OB w' g (k.length + 2) cg (k ++ [163, 164])) (hlt : g < base2) (hg : base ≤ g) (o0 : OB w g (z.x.v.length + 2) cg (z.x.v ++ [163, 164])) :
    HA w' base R n c zs0 ys base2 g2 c2 gb w0 (zs.set i (z.val k)) :=
  ⟨h.lx.putV hz hp hk gx o, h.lk.set hz rfl rfl rfl hk rfl rfl, h.ot.grown_lt gx hlt, h.box.same (Sm.of_grown gx h.box.lt (by
    simp only [ne_eq, Option.some.injEq]
    rintro rfl
    exact absurd (OC.tyy h.box o0) (by decide))), blw_own h.bel gx (Nat.le_trans hb h.bel.size) hg, h.out.likeStep h.lk hz h.bel.size gx (m1 := 0) (c1 := 0) (Or.inr hp)⟩
theorem again_cell {w w0 : World} {base R n c base2 g2 c2 gb i g m cg : Nat} {zs0 ys zs : List Cel} {z : Cel} (h : HA w base R n c zs0 ys base2 g2 c2 gb w0 zs) (hi : i < n) (hz : zs[i]? = some z) {k : Nat} (hp : z.p = (some ⟨g, 0, none⟩, k, cg)) (hk : k = m) : w.cell? ⟨R, i * 4, none⟩ = some (.slice (some ⟨g, 0, none⟩) m cg) := by
  obtain ⟨z', g', cg', g'', cg'', hz', -, -, -, -, -, -, it⟩ := h.lx.at_ i hi
  rw [hz] at hz'; cases hz'
  have := it.c0
  rw [hp, hk] at this
  exact this
theorem again_cellq {w w0 : World} {base R n c base2 g2 c2 gb i g m cg : Nat} {zs0 ys zs : List Cel} {z : Cel} (h : HA w base R n c zs0 ys base2 g2 c2 gb w0 zs) (hi : i < n) (hz : zs[i]? = some z) {k : Nat} (hp : z.q = (some ⟨g, 0, none⟩, k, cg)) (hk : k = m) : w.cell? ⟨R, i * 4 + 1, none⟩ = some (.slice (some ⟨g, 0, none⟩) m cg) := by
  obtain ⟨z', g', cg', g'', cg'', hz', -, -, -, -, -, -, it⟩ := h.lx.at_ i hi
  rw [hz] at hz'; cases hz'
  have := it.c1
  rw [hp, hk] at this
  exact this
theorem again_celly {w w0 : World} {base R n c base2 g2 c2 gb i : Nat} {zs0 ys zs : List Cel} {y : Cel} (h : HA w base R n c zs0 ys base2 g2 c2 gb w0 zs) (hi : i < n) (hy : ys[i]? = some y) : w.cell? ⟨g2, i * 4, none⟩ = some (.slice y.p.1 y.p.2.1 y.p.2.2) ∧ w.cell? ⟨g2, i * 4 + 1, none⟩ = some (.slice y.q.1 y.q.2.1 y.q.2.2) := by
  obtain ⟨y', hy', it, -, -⟩ := h.ot.at_ i hi
  rw [hy] at hy'; cases hy'
  exact ⟨it.c0, it.c1⟩
theorem copy_over (k k' mk : List UInt8) (a : Nat) (h : k.length = a) (h' : k'.length = a) : (k ++ mk).take 0 ++ (k'.take a ++ (k ++ mk).drop (0 + a)) = k' ++ mk := by
  rw [List.take_zero, List.nil_append, List.take_of_length_le (by omega), Nat.zero_add, List.drop_left' h]

set_option maxRecDepth 100000 in
set_option maxHeartbeats 4000000 in
theorem again_calls (base R n c : Nat) (zs ys : List Cel) (base2 g2 c2 : Nat) (w : World) (lx : LX w base R n c zs) (hb : base ≤ w.heap.size) (ot : OT w base2 (some ⟨g2, 0, none⟩) n c2 ys) (hlt2 : ∀ s ∈ slots zs, ∀ a, s.1 = some a → a.block < base2) (hsl : SameL (its ys) (its zs)) (hn : n ≤ 2000) (hs : ShT (its ys)) :
    Calls Try.prog 19 #[.agg #[.slice (some ⟨R, 0, none⟩) (n + 1) c, .int .i64 (n : Int)], .slice (some ⟨g2, 0, none⟩) n c2] w fun e w' => e = .returned (.tuple #[]) ∧ ∃ zs', LX w' base R n c zs' ∧ its zs' = its ys ∧ Below base w w' ∧ OT w' base2 (some ⟨g2, 0, none⟩) n c2 ys ∧ Apart zs w w' := by
  have HL2 := hideIt hlt2
  have HSL := hideIt hsl
  have HS := hideIt hs.s
  have ba := below1 w (.cells #[.slice (some ⟨R, 0, none⟩) (n + 1) c, .int .i64 (n : Int)] 26)
  have bx : OC (w.alloc (.cells #[.slice (some ⟨R, 0, none⟩) (n + 1) c, .int .i64 (n : Int)] 26)) 26 2 w.heap.size 1 1 [.slice (some ⟨R, 0, none⟩) (n + 1) c, .int .i64 (n : Int)] := OC.mk rfl _ (heap_alloc_new w _) (Nat.le_refl _) (by rw [maxLen_is]; omega) rfl rfl
  have H0 : HA (w.alloc (.cells #[.slice (some ⟨R, 0, none⟩) (n + 1) c, .int .i64 (n : Int)] 26)) base R n c zs ys base2 g2 c2 w.heap.size w zs := ⟨lx.below ba, LikeC.refl _, ot.below ba, bx, ba.mono hb, Apart.of_below ba⟩
  have YN := hideIt ot.n
  have ZN := hideIt lx.cnt
  clear hlt2 hsl hs lx ot ba bx
  go_enter Try.func19, Try.ntmps19
  go_wp2
  go_loopw [4] (fun ii wr => ∃ (i : Nat) (zs' : List Cel), i ≤ n ∧ ii = .int .i64 (i : Int) ∧ HA wr base R n c zs ys base2 g2 c2 w.heap.size w zs' ∧ Hid (∀ j z y, j < i → zs'[j]? = some z → ys[j]? = some y → z.x = y.x)) (fun ii _ => n - (intOf ii).toNat)
  case atStart => exact ⟨0, zs, by omega, rfl, H0, hideIt (fun j z y hj => by omega)⟩
  case round =>
    clear H0
    obtain ⟨i, zs', hi, rfl, ha, HAG⟩ := hrel
    obtain ⟨u0, u1⟩ := ha.box.lent2
    by_cases hlt : i < n
    · have hd := ha.drew
      obtain ⟨z, g, cg, g', cg', hz, e1, e2, b1, b2, o1, o2, it⟩ := hd.lx.at_ i hlt
      obtain ⟨y, hy, ity, gk, gv⟩ := hd.ot.at_ i hlt
      obtain ⟨⟨P1, n1, d1⟩, ⟨P3, n3, d3⟩, x⟩ := y
      obtain ⟨z0, hz0⟩ : ∃ z0, zs[i]? = some z0 := ⟨_, List.getElem?_eq_getElem (by rw [ZN.out]; exact hlt)⟩
      obtain ⟨p1, p2, p3, p4, p5, p6⟩ := ha.lk.2 i z z0 hz hz0
      obtain ⟨s1, s2, s3, s4⟩ := HSL.out.2 i x z0.x (by unfold its; rw [List.getElem?_map, hy]; rfl) (by unfold its; rw [List.getElem?_map, hz0]; rfl)
      simp only at gk gv
      have k1 := (GB.read gk).len
      have k3 := (GB.read gv).len
      have q1 : z.x.k.length = n1 := by omega
      have q3 : z.x.v.length = n3 := by omega
      have gl : g < base2 := HL2.out z.p (by rw [p1]; exact (slots_mem (List.mem_of_getElem? hz0)).1) ⟨g, 0, none⟩ (by rw [e1])
      have gl' : g' < base2 := HL2.out z.q (by rw [p2]; exact (slots_mem (List.mem_of_getElem? hz0)).2) ⟨g', 0, none⟩ (by rw [e2])
      obtain ⟨c0, c1, -, -⟩ := it
      obtain ⟨t0, t1, -, -⟩ := ity
      obtain ⟨m0, m1⟩ := hd.box.lent2
      rw [e1, q1] at c0
      simp only at c0 t0
      rw [q1] at o1
      have rk := GB.read gk
      have D1 := hideIt (show n1 = min n1 n1 by omega)
      have j1 : (i : Int) < (n : Int) := by omega
      have j2 : (i : Int) < (n : Int) + 1 := by omega
      have CO1 := hideIt (copy_over z.x.k x.k [161, 162] n1 q1 k1)
      go_upto_region 4 with fail
      clear u0 u1
      go_region_held3 (fun w' => w'.cell? ⟨w.heap.size, 0, none⟩ = some (.slice (some ⟨R, 0, none⟩) (n + 1) c) ∧ w'.cell? ⟨R, i * 4, none⟩ = some (.slice (some ⟨g, 0, none⟩) n1 cg) ∧ w'.cell? ⟨g2, i * 4, none⟩ = some (.slice P1 n1 d1)) (first | exact ⟨m0, c0, t0⟩ | exact ⟨v0, v1, v2⟩ | go_keep)
        (first
          | (refine stepB_copy rfl (.tmp 16) (.tmp 21) rfl _ _ _ rfl _ _ _ rfl g (n1 + 2) cg 0 _ _ o1 rk n1 D1.out (fun _ => rfl) (by omega) ?_; intro w3 o3 k3'; rw [CO1.out] at o3; have h3 := hd.copyK (k := x.k) hb hz e1 (by omega) k3' (by rw [k1]; exact o3) gl b1 (by rw [q1]; exact o1); obtain ⟨v0, -⟩ := h3.box.lent2; have v1 := again_cell h3 hlt (z := z.key x.k) (List.getElem?_set_self (List.getElem?_eq_some_iff.1 hz).1) e1 q1; obtain ⟨v2, -⟩ := again_celly h3 hlt hy; simp only at v2))
      have z3 : (zs'.set i (z.key x.k))[i]? = some (z.key x.k) := List.getElem?_set_self (List.getElem?_eq_some_iff.1 hz).1
      have hd3 := h3.drew
      obtain ⟨m0', m1'⟩ := hd3.box.lent2
      have c1' := again_cellq hd3 hlt z3 e2 q3
      obtain ⟨-, t1'⟩ := again_celly hd3 hlt hy
      simp only at t1'
      have o2' : OB w3.drew g' (n3 + 2) cg' (z.x.v ++ [163, 164]) := by
        obtain ⟨-, ⟨gx, cx, ex, -, ox⟩⟩ := hd3.lx.each _ (List.mem_of_getElem? z3)
        rw [show (z.key x.k).q = z.q from rfl, e2] at ex
        cases ex
        rw [← q3]
        exact ox
      obtain ⟨y', hy', -, -, gv'⟩ := hd3.ot.at_ i hlt
      rw [hy] at hy'
      cases hy'
      have rv := GB.read gv'
      simp only at rv
      have D3 := hideIt (show n3 = min n3 n3 by omega)
      have CO3 := hideIt (copy_over z.x.v x.v [163, 164] n3 q3 k3)
      clear gv' gk gv rk o1 c0 c1 t0 t1 m0 m1 hd v0 v1 v2 o3 k3'
      go_wp2
      go_region_held3 (fun w' => w'.cell? ⟨w.heap.size, 0, none⟩ = some (.slice (some ⟨R, 0, none⟩) (n + 1) c) ∧ w'.cell? ⟨R, i * 4 + 1, none⟩ = some (.slice (some ⟨g', 0, none⟩) n3 cg') ∧ w'.cell? ⟨g2, i * 4 + 1, none⟩ = some (.slice P3 n3 d3)) (first | exact ⟨m0', c1', t1'⟩ | exact ⟨v0, v1, v2⟩ | go_keep)
        (first
          | (refine stepB_copy rfl (.tmp 28) (.tmp 33) rfl _ _ _ rfl _ _ _ rfl g' (n3 + 2) cg' 0 _ _ o2' rv n3 D3.out (fun _ => rfl) (by omega) ?_; intro w4 o4 k4; rw [CO3.out] at o4; have h4 := hd3.copyV (k := x.v) hb z3 e2 (by show x.v.length = z.x.v.length; omega) k4 (by rw [k3]; exact o4) gl' b2 (by show OB _ g' (z.x.v.length + 2) cg' (z.x.v ++ [163, 164]); rw [q3]; exact o2'); obtain ⟨v0, -⟩ := h4.box.lent2; have v1 := again_cellq h4 hlt (z := (z.key x.k).val x.v) (List.getElem?_set_self (List.getElem?_eq_some_iff.1 z3).1) e2 q3; obtain ⟨-, v2⟩ := again_celly h4 hlt hy; simp only at v2))
      have AG : Hid (∀ j z' y, j < i + 1 → ((zs'.set i (z.key x.k)).set i ((z.key x.k).val x.v))[j]? = some z' → ys[j]? = some y → z'.x = y.x) := hideIt (by
        intro j z' y hj hz' hy'
        by_cases hij : i = j
        · subst hij
          rw [List.getElem?_set_self (by rw [List.length_set]; exact (List.getElem?_eq_some_iff.1 hz).1)] at hz'
          rw [hy] at hy'
          cases hz'; cases hy'
          show (⟨x.k, x.v, z.x.s, z.x.f⟩ : It) = x
          rw [p5, p6, ← s3, ← s4]
        · rw [List.getElem?_set, if_neg hij, List.getElem?_set, if_neg hij] at hz'
          exact HAG.out j z' y (by omega) hz' hy')
      clear v0 v1 v2 m0' m1' c1' t1' o2' rv hd3 h3 o4 k4
      go_wp2
      go_roundw
      case rel => exact ⟨i + 1, _, by omega, by go_num, h4, AG⟩
      case measure => simp [intOf]; omega
    · obtain rfl : n = i := by omega
      have eq : its zs' = its ys := by
        refine List.ext_getElem? fun j => ?_
        unfold its
        rw [List.getElem?_map, List.getElem?_map]
        by_cases hj : j < n
        · have h1 : zs'[j]? = some (zs'[j]'(by rw [ha.lx.cnt]; exact hj)) := List.getElem?_eq_getElem _
          have h2 : ys[j]? = some (ys[j]'(by rw [YN.out]; exact hj)) := List.getElem?_eq_getElem _
          rw [h1, h2]
          simp only [Option.map_some]
          rw [HAG.out j _ _ hj h1 h2]
        · rw [List.getElem?_eq_none (by rw [ha.lx.cnt]; omega), List.getElem?_eq_none (by rw [YN.out]; omega)]
      go_wp2
      exact bodyPost_end (results_none rfl _ _ _) rfl ⟨rfl, zs', ha.lx, eq, ha.bel, ha.ot, ha.out⟩
end Go.Proofs.Ytieoleiokjoccaa
