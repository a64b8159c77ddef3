/- coppicekept.Book: what growing does, told by the blocks that may be written; no program in sight. -/
import Derived.Test.YtmeakhiiebeneaaGreatDoorKc
namespace Go.Proofs.YtmeakhiiebeneaaGreatDoor
open Go.RowKit

def AtB (A : Option Addr) (g : Nat) : Prop := ∃ a, A = some a ∧ a.block = g
def Cov (F : Nat → Prop) (S : Nat) (qs : List Slot) : Prop := ∀ g, InPs qs g → F g ∨ S ≤ g
theorem InPs.set {qs : List Slot} {i g n c : Nat} {P : Slot} (h : InPs (qs.set i P) g) (hP : P = (some ⟨g, 0, none⟩, n, c) → False) : InPs qs g ∨ AtB P.1 g := by
  obtain ⟨p, hp, a, ha, hg⟩ := h
  rcases List.mem_or_eq_of_mem_set hp with q | q
  · exact Or.inl ⟨p, q, a, ha, hg⟩
  · subst q; exact Or.inr ⟨a, ha, hg⟩
theorem Cov.set {F : Nat → Prop} {S i : Nat} {qs : List Slot} {P : Slot} (h : Cov F S qs) (hP : ∀ g, AtB P.1 g → F g ∨ S ≤ g) : Cov F S (qs.set i P) := by
  rintro g ⟨p, hp, a, ha, hg⟩
  rcases List.mem_or_eq_of_mem_set hp with q | q
  · exact h g ⟨p, q, a, ha, hg⟩
  · subst q; exact hP g ⟨a, ha, hg⟩
/-- One list is grown: its slice is laid into the row anew. -/
theorem grow_stepF {w w3 : World} {gk base e sz rt B2 gg i mg cg n1 k1 g3 c3 m cb : Nat} {Ab A1 : Option Addr} {BS : List Value} {ps qs : List Slot} {css zss : List (List Value)} {zs ys : List Value} (ne : e ≠ rt) (nk1 : 39 ≠ e) (nk2 : 39 ≠ rt)
    (bk : Bk w gk BS) (ra : GC w base rt 1 Ab m cb (ps.map sv)) (hab : ∀ a, Ab = some a → a.block < B2) (rg : OC w rt 1 gg mg cg ((qs.take mg).map sv)) (hgg : B2 ≤ gg) (gr : GR w base e sz B2 ps qs css zss) (hq : qs[i]? = some (A1, n1, k1)) (hz : zss[i]? = some zs)
    (q3 : (∃ g, A1 = some ⟨g, 0, none⟩ ∧ g3 = g ∧ c3 = k1 ∧ w.grownBy w3 (some g)) ∨ (w.heap.size ≤ g3 ∧ w.grownBy w3 none)) (o3 : OC w3 e sz g3 (n1 + 1) c3 (zs ++ ys)) (hb : base ≤ w.heap.size) (hB : B2 ≤ w.heap.size) :
    (Bk w3 gk BS ∧ OC w3 rt 1 gg mg cg ((qs.take mg).map sv)) ∧
    Bk (w3.setCell ⟨gg, i, none⟩ (.slice (some ⟨g3, 0, none⟩) (n1 + 1) c3)) gk BS ∧
    GC (w3.setCell ⟨gg, i, none⟩ (.slice (some ⟨g3, 0, none⟩) (n1 + 1) c3)) base rt 1 Ab m cb (ps.map sv) ∧
    OC (w3.setCell ⟨gg, i, none⟩ (.slice (some ⟨g3, 0, none⟩) (n1 + 1) c3)) rt 1 gg mg cg (((qs.set i (some ⟨g3, 0, none⟩, n1 + 1, c3)).take mg).map sv) ∧
    GR (w3.setCell ⟨gg, i, none⟩ (.slice (some ⟨g3, 0, none⟩) (n1 + 1) c3)) base e sz B2 ps (qs.set i (some ⟨g3, 0, none⟩, n1 + 1, c3)) css (zss.set i (zs ++ ys)) ∧
    Out (fun g => InPs qs g ∨ g = gg) w (w3.setCell ⟨gg, i, none⟩ (.slice (some ⟨g3, 0, none⟩) (n1 + 1) c3)) := by
  obtain ⟨p, q', cs, zs', h1, h2, h3, h4, f⟩ := gr.zat i (by rw [← gr.lq]; exact (List.getElem?_eq_some_iff.1 hq).1)
  rw [hq] at h2; cases h2
  rw [hz] at h4; cases h4
  have own : GC w base e sz A1 n1 k1 zs := f.own
  have bk3 : Bk w3 gk BS := OC.past bk own nk1 q3
  have rg3 := rg.past own (Ne.symm ne) q3
  have ra3 := ra.past own (Ne.symm ne) q3
  have gr3 := gr.grow hq hz q3 o3 hb hB
  have gx := gset w3 gg i (.slice (some ⟨g3, 0, none⟩) (n1 + 1) c3)
  have ou3 : Out (fun g => InPs qs g ∨ g = gg) w w3 := by
    rcases q3 with ⟨g, rfl, -, -, k⟩ | ⟨-, k⟩
    · refine (Out.refl _ w).grow k fun g' hg' => Or.inl (Or.inl ?_)
      cases hg'
      exact ⟨_, List.mem_of_getElem? hq, _, rfl, rfl⟩
    · exact (Out.refl _ w).grow k fun g' hg' => by cases hg'
  refine ⟨⟨bk3, rg3⟩, Bk.same bk3 (Sm.setCell _ _ _ (by rintro rfl; exact nk2 (OC.tyy bk3 rg3))), ?_, ?_, gr3.apart gx rg3 ne, ou3.grow gx (fun g hg => by cases hg; exact Or.inl (Or.inr rfl))⟩
  · exact GC.same ra3 fun ad ea => Sm.setCell _ _ _ (by have := hab ad ea; simp only; omega)
  · have := rg3.set i (sv (some ⟨g3, 0, none⟩, n1 + 1, c3))
    rw [take_set_row] at this
    exact this
/-- A list more in the row of those that are grown. -/
theorem row_stepF {w w5 : World} {gk base e sz rt B2 i cg g5 c5 m cb F : Nat} {Ab Ag : Option Addr} {BS : List Value} {ps qs : List Slot} {css zss : List (List Value)} {P : Slot} (ne : e ≠ rt) (nk1 : 39 ≠ e) (nk2 : 39 ≠ rt)
    (bk : Bk w gk BS) (ra : GC w base rt 1 Ab m cb (ps.map sv)) (hab : ∀ a, Ab = some a → a.block < B2) (rg : GC w B2 rt 1 Ag i cg ((qs.take i).map sv)) (gr : GR w base e sz B2 ps qs css zss) (hq : qs[i]? = some P)
    (k5 : w.grownBy w5 (Ag.map (·.block))) (o5 : OC w5 rt 1 g5 (i + 1) c5 ((qs.take i).map sv ++ [sv P])) (_q5 : B2 ≤ g5) :
    (Bk w5 gk BS ∧ GC w5 base rt 1 Ab m cb (ps.map sv)) ∧
    Bk (w5.setCell ⟨gk, F, none⟩ (.slice (some ⟨g5, 0, none⟩) (i + 1) c5)) gk (BS.set F (.slice (some ⟨g5, 0, none⟩) (i + 1) c5)) ∧
    GC (w5.setCell ⟨gk, F, none⟩ (.slice (some ⟨g5, 0, none⟩) (i + 1) c5)) base rt 1 Ab m cb (ps.map sv) ∧
    OC (w5.setCell ⟨gk, F, none⟩ (.slice (some ⟨g5, 0, none⟩) (i + 1) c5)) rt 1 g5 (i + 1) c5 ((qs.take (i + 1)).map sv) ∧
    GR (w5.setCell ⟨gk, F, none⟩ (.slice (some ⟨g5, 0, none⟩) (i + 1) c5)) base e sz B2 ps qs css zss ∧
    Out (fun g => g = gk ∨ AtB Ag g) w (w5.setCell ⟨gk, F, none⟩ (.slice (some ⟨g5, 0, none⟩) (i + 1) c5)) := by
  have bk5 : Bk w5 gk BS := OC.apart bk rg k5 nk2
  have gx := gset w5 gk F (.slice (some ⟨g5, 0, none⟩) (i + 1) c5)
  have ra5 : GC w5 base rt 1 Ab m cb (ps.map sv) := by
    refine GC.same ra fun ad ea => Sm.of_grown k5 (ra.lt ad ea).1 ?_
    have h1 := hab ad ea
    cases Ag with
    | none => simp
    | some a =>
      have h2 := (rg.lt a rfl).2
      simp only [Option.map_some, ne_eq, Option.some.injEq]
      omega
  have gr5 : GR w5 base e sz B2 ps qs css zss := by
    rcases rg.oc with ⟨rfl, _⟩ | ⟨g, rfl, _, og⟩
    · exact gr.keep fun j p q h1 h2 a ha => Sm.of_grown k5 (gr.lt j p q h1 h2 a ha).1 (by simp)
    · exact gr.apart k5 og ne
  have et : (qs.take i).map sv ++ [sv P] = (qs.take (i + 1)).map sv := by rw [List.take_add_one, hq]; simp
  rw [et] at o5
  have ou5 : Out (fun g => g = gk ∨ AtB Ag g) w w5 := (Out.refl _ w).grow k5 fun g hg => by
    cases Ag with
    | none => cases hg
    | some a =>
      simp only [Option.map_some, Option.some.injEq] at hg
      exact Or.inl (Or.inr ⟨a, rfl, hg⟩)
  refine ⟨⟨bk5, ra5⟩, OC.set bk5 F _, ?_, o5.same (Sm.setCell _ _ _ (by rintro rfl; exact nk2 (OC.tyy bk5 o5))), gr5.apart gx bk5 (Ne.symm nk1), ou5.grow gx (fun g hg => by cases hg; exact Or.inl (Or.inl rfl))⟩
  rcases ra5.oc with ⟨rfl, rfl, rfl, e0⟩ | ⟨g, rfl, hb, oa⟩
  · rw [e0]; exact GC.nil _ _ _ _
  · exact GC.of (oa.same (Sm.setCell _ _ _ (by rintro rfl; exact nk2 (OC.tyy bk5 oa)))) hb

/-! ### a kind's lists behind t turns -/
structure GSt (w : World) (base B2 e sz rt m cb : Nat) (Ab : Option Addr) (ps : List Slot) (css : List (List Value)) (M : List (List Value) → Prop) (K t mg cg : Nat) (Ag : Option Addr) (F : Nat → Prop) : Prop where
  ra : GC w base rt 1 Ab m cb (ps.map sv)
  ab : ∀ a, Ab = some a → a.block < B2
  fl : ∀ g, F g → g < w.heap.size
  fp : ∀ g, InPs ps g → F g
  fa : ∀ g, AtB Ab g → F g
  now : (t = 0 ∧ mg = 0 ∧ cg = 0 ∧ Ag = none ∧ GR w base e sz B2 ps ps css css ∧ M css ∧ (∀ zs ∈ css, zs.length ≤ K * sz)) ∨
    (0 < t ∧ mg = m ∧ ∃ qs zss, GC w B2 rt 1 Ag m cg (qs.map sv) ∧ GR w base e sz B2 ps qs css zss ∧ M zss ∧ (∀ zs ∈ zss, zs.length ≤ (K + t) * sz) ∧ (∀ g, InPs qs g → F g) ∧ (∀ g, AtB Ag g → F g))
theorem GC.out {w w' : World} {base e sz n c : Nat} {A : Option Addr} {cs : List Value} {D : Nat → Prop} (h : GC w base e sz A n c cs) (ou : Out D w w') (hd : ∀ g, AtB A g → ¬ D g) : GC w' base e sz A n c cs :=
  GC.same h fun ad e => ou.sm (h.lt ad e).1 (hd _ ⟨ad, e, rfl⟩)
theorem GR.out {w w' : World} {base e sz B2 : Nat} {ps qs : List Slot} {css zss : List (List Value)} {D : Nat → Prop} (h : GR w base e sz B2 ps qs css zss) (ou : Out D w w') (hp : ∀ g, InPs ps g → ¬ D g) (hq : ∀ g, InPs qs g → ¬ D g) : GR w' base e sz B2 ps qs css zss :=
  h.keep fun j p q h1 h2 a ha => ou.sm (h.lt j p q h1 h2 a ha).1 (by
    rcases ha with e | e
    · exact hp _ ⟨p, List.mem_of_getElem? h1, a, e, rfl⟩
    · exact hq _ ⟨q, List.mem_of_getElem? h2, a, e, rfl⟩)
theorem LS.out {w w' : World} {base e sz rt n c : Nat} {A : Option Addr} {ps : List Slot} {css : List (List Value)} {D : Nat → Prop} (h : LS w base e sz rt A n c ps css) (ou : Out D w w') (ha : ∀ g, AtB A g → ¬ D g) (hp : ∀ g, InPs ps g → ¬ D g) : LS w' base e sz rt A n c ps css :=
  ⟨h.row.out ou ha, h.len, fun j p cs h1 h2 => (h.each j p cs h1 h2).out ou fun g ⟨a, e, q⟩ => hp g ⟨p, List.mem_of_getElem? h1, a, e, q⟩, h.inc⟩
theorem GSt.out {w w' : World} {base B2 e sz rt m cb : Nat} {Ab : Option Addr} {ps : List Slot} {css : List (List Value)} {M : List (List Value) → Prop} {K t mg cg : Nat} {Ag : Option Addr} {F D : Nat → Prop} (h : GSt w base B2 e sz rt m cb Ab ps css M K t mg cg Ag F) (ou : Out D w w') (hd : ∀ g, F g → ¬ D g) : GSt w' base B2 e sz rt m cb Ab ps css M K t mg cg Ag F := by
  refine ⟨h.ra.out ou fun g q => hd g (h.fa g q), h.ab, fun g q => Nat.lt_of_lt_of_le (h.fl g q) ou.size, h.fp, h.fa, ?_⟩
  rcases h.now with ⟨h1, h2, h3, h4, h5, h6, h7⟩ | ⟨h1, h2, qs, zss, h3, h4, h5, h6, h7, h8⟩
  · exact Or.inl ⟨h1, h2, h3, h4, h5.out ou (fun g q => hd g (h.fp g q)) (fun g q => hd g (h.fp g q)), h6, h7⟩
  · exact Or.inr ⟨h1, h2, qs, zss, h3.out ou fun g q => hd g (h8 g q), h4.out ou (fun g q => hd g (h.fp g q)) (fun g q => hd g (h7 g q)), h5, h6, h7, h8⟩
/-- A kind's lists and their row: the blocks. -/
def Blk (A : Option Addr) (ps : List Slot) (g : Nat) : Prop := InPs ps g ∨ AtB A g
theorem LS.blk {w : World} {base e sz rt n c : Nat} {A : Option Addr} {ps : List Slot} {css : List (List Value)} (h : LS w base e sz rt A n c ps css) {g : Nat} (q : Blk A ps g) : g < w.heap.size := by
  rcases q with ⟨p, hp, a, ha, rfl⟩ | ⟨a, ha, rfl⟩
  · exact (h.lt p hp a ha).1
  · exact (h.row.lt a ha).1
theorem LS.ty {w : World} {base e sz rt n c : Nat} {A : Option Addr} {ps : List Slot} {css : List (List Value)} (h : LS w base e sz rt A n c ps css) {g : Nat} (q : Blk A ps g) : (∃ n' c' cs, OC w e sz g n' c' cs) ∨ (∃ n' c' cs, OC w rt 1 g n' c' cs) := by
  rcases q with ⟨p, hp, a, ha, rfl⟩ | ⟨a, ha, rfl⟩
  · obtain ⟨j, hj⟩ := List.getElem?_of_mem hp
    obtain ⟨cs, hc⟩ : ∃ cs, css[j]? = some cs := ⟨_, List.getElem?_eq_getElem (by rw [← h.len]; exact (List.getElem?_eq_some_iff.1 hj).1)⟩
    rcases (h.each j p cs hj hc).oc with ⟨e0, _⟩ | ⟨g0, e0, _, o⟩
    · rw [ha] at e0; cases e0
    · rw [ha] at e0; cases e0
      exact Or.inl ⟨_, _, _, o⟩
  · rcases h.row.oc with ⟨e0, _⟩ | ⟨g0, e0, _, o⟩
    · rw [ha] at e0; cases e0
    · rw [ha] at e0; cases e0
      exact Or.inr ⟨_, _, _, o⟩
theorem LS.gst {w : World} {base e sz rt m cb K : Nat} {Ab : Option Addr} {ps : List Slot} {css : List (List Value)} {M : List (List Value) → Prop} (h : LS w base e sz rt Ab m cb ps css) (hM : M css) (hK : ∀ zs ∈ css, zs.length ≤ K * sz) : GSt w base w.heap.size e sz rt m cb Ab ps css M K 0 0 0 none (Blk Ab ps) :=
  ⟨h.row, fun a e => (h.row.lt a e).1, fun _ q => h.blk q, fun _ q => Or.inl q, fun _ q => Or.inr q, Or.inl ⟨rfl, rfl, rfl, rfl, GR.start _ h, hM, hK⟩⟩

/-! ### marks of several cells -/
def runs (mk : Nat → List Value) (n : Nat) : List Value := (List.range n).flatMap mk
theorem runs_succ (mk : Nat → List Value) (n : Nat) : runs mk (n + 1) = runs mk n ++ mk n := by unfold runs; rw [List.range_succ, List.flatMap_append]; simp
theorem runs_length (mk : Nat → List Value) (sz : Nat) (h : ∀ j, (mk j).length = sz) (n : Nat) : (runs mk n).length = n * sz := by
  induction n with
  | zero => simp [runs]
  | succ n ih => rw [runs_succ, List.length_append, ih, h, Nat.add_mul, Nat.one_mul]
theorem runs_get (mk : Nat → List Value) (sz : Nat) (h : ∀ j, (mk j).length = sz) (n j i : Nat) (hj : j < n) (hi : i < sz) : (runs mk n)[j * sz + i]? = (mk j)[i]? := by
  induction n with
  | zero => omega
  | succ n ih =>
    rw [runs_succ]
    by_cases q : j < n
    · have : j * sz + i < n * sz := by
        have := Nat.mul_le_mul_right sz (show j + 1 ≤ n by omega)
        rw [Nat.add_mul, Nat.one_mul] at this
        omega
      rw [List.getElem?_append_left (by rw [runs_length mk sz h]; exact this), ih q]
    · obtain rfl : j = n := by omega
      rw [List.getElem?_append_right (by rw [runs_length mk sz h]; omega), runs_length mk sz h, Nat.add_sub_cancel_left]
/-- Each list shows its own marks. -/
def MarkR (mk : Nat → Nat → List Value) (id0 k : Nat) (css : List (List Value)) : Prop := ∀ j cs, j < k → css[j]? = some cs → ∃ n, cs = runs (mk (id0 + j + 1)) n
theorem MarkR.at_ {mk : Nat → Nat → List Value} {id0 k sz j n : Nat} {css : List (List Value)} {cs : List Value} (h : MarkR mk id0 k css) (hsz : 0 < sz) (hm : ∀ i j, (mk i j).length = sz) (hj : j < k) (hc : css[j]? = some cs) (hl : cs.length = n * sz) : cs = runs (mk (id0 + j + 1)) n := by
  obtain ⟨n', rfl⟩ := h j cs hj hc
  rw [runs_length _ sz (hm _)] at hl
  rw [Nat.eq_of_mul_eq_mul_right hsz hl]
theorem MarkR.more {mk : Nat → Nat → List Value} {id0 k : Nat} {css : List (List Value)} (h : MarkR mk id0 k css) (hk : ∀ cs, css[k]? = some cs → ∃ n, cs = runs (mk (id0 + k + 1)) n) : MarkR mk id0 (k + 1) css := fun j cs hj hc => by
  rcases Nat.lt_or_ge j k with q | q
  · exact h j cs q hc
  · obtain rfl : j = k := by omega
    exact hk cs hc
theorem MarkR.set {mk : Nat → Nat → List Value} {id0 k i : Nat} {css : List (List Value)} (h : MarkR mk id0 k css) (hi : k ≤ i) (cs : List Value) : MarkR mk id0 k (css.set i cs) := fun j cs' hj hc => by
  rw [List.getElem?_set, if_neg (by omega)] at hc
  exact h j cs' hj hc
theorem MarkR.grow {mk : Nat → Nat → List Value} {id0 m i sz n : Nat} {zss : List (List Value)} {zs ys : List Value} (h : MarkR mk id0 m zss) (hsz : 0 < sz) (hm : ∀ i j, (mk i j).length = sz) (hi : i < m) (hz : zss[i]? = some zs) (hl : zs.length = n * sz) (hv : mk (id0 + i + 1) n = ys) : MarkR mk id0 m (zss.set i (zs ++ ys)) := fun j zs' hj k => by
  rw [List.getElem?_set] at k
  by_cases hij : i = j
  · subst hij
    rw [if_pos rfl] at k
    split at k
    · cases k
      refine ⟨n + 1, ?_⟩
      rw [runs_succ, ← h.at_ hsz hm hi hz hl, hv]
    · cases k
  · rw [if_neg hij] at k
    exact h j zs' hj k
theorem MarkR.nil (mk : Nat → Nat → List Value) (id0 k : Nat) : MarkR mk id0 k [] := fun j cs _ h => by simp at h
/-- at most K elements each, from place i on one less. -/
def LenR (K sz i : Nat) (zss : List (List Value)) : Prop := ∀ j zs, zss[j]? = some zs → zs.length ≤ (K + 1) * sz ∧ (i ≤ j → zs.length ≤ K * sz)
theorem LenR.start {K sz : Nat} {zss : List (List Value)} (h : ∀ zs ∈ zss, zs.length ≤ K * sz) : LenR K sz 0 zss := fun _ zs k => ⟨Nat.le_trans (h zs (List.mem_of_getElem? k)) (Nat.mul_le_mul_right _ (Nat.le_succ _)), fun _ => h zs (List.mem_of_getElem? k)⟩
theorem LenR.done {K sz m : Nat} {zss : List (List Value)} (h : LenR K sz m zss) : ∀ zs ∈ zss, zs.length ≤ (K + 1) * sz := fun zs hz => by
  obtain ⟨j, hj⟩ := List.getElem?_of_mem hz
  exact (h j zs hj).1
theorem LenR.step {K sz i : Nat} {zss : List (List Value)} {zs ys : List Value} (h : LenR K sz i zss) (hz : zss[i]? = some zs) (hy : ys.length = sz) : LenR K sz (i + 1) (zss.set i (zs ++ ys)) := fun j zs' k => by
  rw [List.getElem?_set] at k
  by_cases hij : i = j
  · subst hij
    rw [if_pos rfl] at k
    split at k
    · cases k
      have := (h i zs hz).2 (Nat.le_refl _)
      exact ⟨by rw [List.length_append, hy, Nat.add_mul, Nat.one_mul]; omega, fun q => by omega⟩
    · cases k
  · rw [if_neg hij] at k
    exact ⟨(h j zs' k).1, fun q => (h j zs' k).2 (by omega)⟩
end Go.Proofs.YtmeakhiiebeneaaGreatDoor
