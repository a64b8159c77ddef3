/- coppicekept.Book in general: a kind of which nothing is kept; lists whose marks are told by their values. -/
import Derived.Test.YtmeakhiiebeneaaGreatDoorBk
import Derived.Test.YtmeakhiiebeneaaGreatDoorJb
import Derived.Test.YtmeakhiiebeneaaGreatDoorJNg
import Derived.Test.YtmeakhiiebeneaaGreatDoorJNu
import Derived.Test.YtmeakhiiebeneaaGreatDoorBu
namespace Go.Proofs.YtmeakhiiebeneaaGreatDoor
open Go.RowKit

theorem Calls.nil1 {f : FuncId} {args : Array Value} {w : World} {v : Value} (h : Calls Tryz.prog f args w fun e w' => e = .returned v ∧ w = w') : Calls Tryz.prog f args w fun e w' => e = .returned v ∧ Below w.heap.size w w' :=
  h.mono fun _ _ ⟨a, b⟩ => ⟨a, b ▸ Below.refl _ _⟩
theorem Out.none (w : World) (F : Nat → Prop) : Out F w w := Out.refl _ _
def KC.no_ints (B gk id0 : Nat) : KC B gk 1 id0 where
  m := 0
  v0 := nilV
  v1 := nilV
  U := fun _ => True
  P := fun _ F _ => ∀ g, ¬ F g
  G := fun _ v F _ => v = nilV ∧ ∀ g, ¬ F g
  ub := fun h _ => h
  pf := fun h _ _ _ _ => h
  gf := fun h _ _ _ _ => h
  pl := fun h g q => (h g q).elim
  gl := fun h g q => (h.2 g q).elim
  start := fun h => ⟨rfl, h⟩
  un := fun w bs bk e0 _ _ => Calls.nil1 (intsUntouched_nil gk w (OC.cell bk 5 _ e0))
  wr := fun w bs ph q F _ bk _ _ _ e0 h => (intsWrite_nil gk _ w (OC.cell bk 5 _ e0)).mono fun _ _ ⟨a, b⟩ => ⟨a, b ▸ bk, F, h, fun _ q => Or.inl q, b ▸ Out.refl _ _⟩
  ho := fun w bs q F _ bk _ _ e0 _ _ => Calls.nil1 (intsHold_nil gk _ w (OC.cell bk 5 _ e0))
  gr := fun w bs n v F _ bk _ _ _ e0 e4 h => (intsGrow_nil gk _ _ w (OC.cell bk 5 _ e0)).mono fun _ _ ⟨a, b⟩ => ⟨a, v, F, by rw [set_self e4]; exact b ▸ bk, h, fun _ q => Or.inl q, b ▸ Out.refl _ _⟩
  hg := fun w bs v F bk _ _ e0 _ _ => Calls.nil1 (intsHold_nil gk _ w (OC.cell bk 5 _ e0))
def KC.no_texts (B gk id0 : Nat) : KC B gk 2 id0 where
  m := 0
  v0 := nilV
  v1 := nilV
  U := fun _ => True
  P := fun _ F _ => ∀ g, ¬ F g
  G := fun _ v F _ => v = nilV ∧ ∀ g, ¬ F g
  ub := fun h _ => h
  pf := fun h _ _ _ _ => h
  gf := fun h _ _ _ _ => h
  pl := fun h g q => (h g q).elim
  gl := fun h g q => (h.2 g q).elim
  start := fun h => ⟨rfl, h⟩
  un := fun w bs bk e0 _ _ => Calls.nil1 (textsUntouched_nil gk w (OC.cell bk 8 _ e0))
  wr := fun w bs ph q F _ bk _ _ _ e0 h => (textsWrite_nil gk _ w (OC.cell bk 8 _ e0)).mono fun _ _ ⟨a, b⟩ => ⟨a, b ▸ bk, F, h, fun _ q => Or.inl q, b ▸ Out.refl _ _⟩
  ho := fun w bs q F _ bk _ _ e0 _ _ => Calls.nil1 (textsHold_nil gk _ w (OC.cell bk 8 _ e0))
  gr := fun w bs n v F _ bk _ _ _ e0 e4 h => (textsGrow_nil gk _ _ w (OC.cell bk 8 _ e0)).mono fun _ _ ⟨a, b⟩ => ⟨a, v, F, by rw [set_self e4]; exact b ▸ bk, h, fun _ q => Or.inl q, b ▸ Out.refl _ _⟩
  hg := fun w bs v F bk _ _ e0 _ _ => Calls.nil1 (textsHold_nil gk _ w (OC.cell bk 8 _ e0))
def KC.no_byteLists (B gk id0 : Nat) : KC B gk 3 id0 where
  m := 0
  v0 := nilV
  v1 := nilV
  U := fun _ => True
  P := fun _ F _ => ∀ g, ¬ F g
  G := fun _ v F _ => v = nilV ∧ ∀ g, ¬ F g
  ub := fun h _ => h
  pf := fun h _ _ _ _ => h
  gf := fun h _ _ _ _ => h
  pl := fun h g q => (h g q).elim
  gl := fun h g q => (h.2 g q).elim
  start := fun h => ⟨rfl, h⟩
  un := fun w bs bk e0 _ _ => Calls.nil1 (byteListsUntouched_nil gk w (OC.cell bk 11 _ e0))
  wr := fun w bs ph q F _ bk _ _ _ e0 h => (byteListsWrite_nil gk _ w (OC.cell bk 11 _ e0)).mono fun _ _ ⟨a, b⟩ => ⟨a, b ▸ bk, F, h, fun _ q => Or.inl q, b ▸ Out.refl _ _⟩
  ho := fun w bs q F _ bk _ _ e0 _ _ => Calls.nil1 (byteListsHold_nil gk _ w (OC.cell bk 11 _ e0))
  gr := fun w bs n v F _ bk _ _ _ e0 e4 h => (byteListsGrow_nil gk _ _ w (OC.cell bk 11 _ e0)).mono fun _ _ ⟨a, b⟩ => ⟨a, v, F, by rw [set_self e4]; exact b ▸ bk, h, fun _ q => Or.inl q, b ▸ Out.refl _ _⟩
  hg := fun w bs v F bk _ _ e0 _ _ => Calls.nil1 (byteListsHold_nil gk _ w (OC.cell bk 11 _ e0))
def KC.no_intLists (B gk id0 : Nat) : KC B gk 4 id0 where
  m := 0
  v0 := nilV
  v1 := nilV
  U := fun _ => True
  P := fun _ F _ => ∀ g, ¬ F g
  G := fun _ v F _ => v = nilV ∧ ∀ g, ¬ F g
  ub := fun h _ => h
  pf := fun h _ _ _ _ => h
  gf := fun h _ _ _ _ => h
  pl := fun h g q => (h g q).elim
  gl := fun h g q => (h.2 g q).elim
  start := fun h => ⟨rfl, h⟩
  un := fun w bs bk e0 _ _ => Calls.nil1 (intListsUntouched_nil gk w (OC.cell bk 14 _ e0))
  wr := fun w bs ph q F _ bk _ _ _ e0 h => (intListsWrite_nil gk _ w (OC.cell bk 14 _ e0)).mono fun _ _ ⟨a, b⟩ => ⟨a, b ▸ bk, F, h, fun _ q => Or.inl q, b ▸ Out.refl _ _⟩
  ho := fun w bs q F _ bk _ _ e0 _ _ => Calls.nil1 (intListsHold_nil gk _ w (OC.cell bk 14 _ e0))
  gr := fun w bs n v F _ bk _ _ _ e0 e4 h => (intListsGrow_nil gk _ _ w (OC.cell bk 14 _ e0)).mono fun _ _ ⟨a, b⟩ => ⟨a, v, F, by rw [set_self e4]; exact b ▸ bk, h, fun _ q => Or.inl q, b ▸ Out.refl _ _⟩
  hg := fun w bs v F bk _ _ e0 _ _ => Calls.nil1 (intListsHold_nil gk _ w (OC.cell bk 14 _ e0))
def KC.no_pairs (B gk id0 : Nat) : KC B gk 5 id0 where
  m := 0
  v0 := nilV
  v1 := nilV
  U := fun _ => True
  P := fun _ F _ => ∀ g, ¬ F g
  G := fun _ v F _ => v = nilV ∧ ∀ g, ¬ F g
  ub := fun h _ => h
  pf := fun h _ _ _ _ => h
  gf := fun h _ _ _ _ => h
  pl := fun h g q => (h g q).elim
  gl := fun h g q => (h.2 g q).elim
  start := fun h => ⟨rfl, h⟩
  un := fun w bs bk e0 _ _ => Calls.nil1 (pairsUntouched_nil gk w (OC.cell bk 17 _ e0))
  wr := fun w bs ph q F _ bk _ _ _ e0 h => (pairsWrite_nil gk _ w (OC.cell bk 17 _ e0)).mono fun _ _ ⟨a, b⟩ => ⟨a, b ▸ bk, F, h, fun _ q => Or.inl q, b ▸ Out.refl _ _⟩
  ho := fun w bs q F _ bk _ _ e0 _ _ => Calls.nil1 (pairsHold_nil gk _ w (OC.cell bk 17 _ e0))
  gr := fun w bs n v F _ bk _ _ _ e0 e4 h => (pairsGrow_nil gk _ _ w (OC.cell bk 17 _ e0)).mono fun _ _ ⟨a, b⟩ => ⟨a, v, F, by rw [set_self e4]; exact b ▸ bk, h, fun _ q => Or.inl q, b ▸ Out.refl _ _⟩
  hg := fun w bs v F bk _ _ e0 _ _ => Calls.nil1 (pairsHold_nil gk _ w (OC.cell bk 17 _ e0))
def KC.no_items (B gk id0 : Nat) : KC B gk 6 id0 where
  m := 0
  v0 := nilV
  v1 := nilV
  U := fun _ => True
  P := fun _ F _ => ∀ g, ¬ F g
  G := fun _ v F _ => v = nilV ∧ ∀ g, ¬ F g
  ub := fun h _ => h
  pf := fun h _ _ _ _ => h
  gf := fun h _ _ _ _ => h
  pl := fun h g q => (h g q).elim
  gl := fun h g q => (h.2 g q).elim
  start := fun h => ⟨rfl, h⟩
  un := fun w bs bk e0 _ _ => Calls.nil1 (itemsUntouched_nil gk w (OC.cell bk 20 _ e0))
  wr := fun w bs ph q F _ bk _ _ _ e0 h => (itemsWrite_nil gk _ w (OC.cell bk 20 _ e0)).mono fun _ _ ⟨a, b⟩ => ⟨a, b ▸ bk, F, h, fun _ q => Or.inl q, b ▸ Out.refl _ _⟩
  ho := fun w bs q F _ bk _ _ e0 _ _ => Calls.nil1 (itemsHold_nil gk _ w (OC.cell bk 20 _ e0))
  gr := fun w bs n v F _ bk _ _ _ e0 e4 h => (itemsGrow_nil gk _ _ w (OC.cell bk 20 _ e0)).mono fun _ _ ⟨a, b⟩ => ⟨a, v, F, by rw [set_self e4]; exact b ▸ bk, h, fun _ q => Or.inl q, b ▸ Out.refl _ _⟩
  hg := fun w bs v F bk _ _ e0 _ _ => Calls.nil1 (itemsHold_nil gk _ w (OC.cell bk 20 _ e0))
def KC.no_kids (B gk id0 : Nat) : KC B gk 7 id0 where
  m := 0
  v0 := nilV
  v1 := nilV
  U := fun _ => True
  P := fun _ F _ => ∀ g, ¬ F g
  G := fun _ v F _ => v = nilV ∧ ∀ g, ¬ F g
  ub := fun h _ => h
  pf := fun h _ _ _ _ => h
  gf := fun h _ _ _ _ => h
  pl := fun h g q => (h g q).elim
  gl := fun h g q => (h.2 g q).elim
  start := fun h => ⟨rfl, h⟩
  un := fun w bs bk e0 _ _ => Calls.nil1 (kidsUntouched_nil gk w (OC.cell bk 23 _ e0))
  wr := fun w bs ph q F _ bk _ _ _ e0 h => (kidsWrite_nil gk _ w (OC.cell bk 23 _ e0)).mono fun _ _ ⟨a, b⟩ => ⟨a, b ▸ bk, F, h, fun _ q => Or.inl q, b ▸ Out.refl _ _⟩
  ho := fun w bs q F _ bk _ _ e0 _ _ => Calls.nil1 (kidsHold_nil gk _ w (OC.cell bk 23 _ e0))
  gr := fun w bs n v F _ bk _ _ _ e0 e4 h => (kidsGrow_nil gk _ _ w (OC.cell bk 23 _ e0)).mono fun _ _ ⟨a, b⟩ => ⟨a, v, F, by rw [set_self e4]; exact b ▸ bk, h, fun _ q => Or.inl q, b ▸ Out.refl _ _⟩
  hg := fun w bs v F bk _ _ e0 _ _ => Calls.nil1 (kidsHold_nil gk _ w (OC.cell bk 23 _ e0))
def KC.no_nodes (B gk id0 : Nat) : KC B gk 8 id0 where
  m := 0
  v0 := nilV
  v1 := nilV
  U := fun _ => True
  P := fun _ F _ => ∀ g, ¬ F g
  G := fun _ v F _ => v = nilV ∧ ∀ g, ¬ F g
  ub := fun h _ => h
  pf := fun h _ _ _ _ => h
  gf := fun h _ _ _ _ => h
  pl := fun h g q => (h g q).elim
  gl := fun h g q => (h.2 g q).elim
  start := fun h => ⟨rfl, h⟩
  un := fun w bs bk e0 _ _ => Calls.nil1 (nodesUntouched_nil gk w (OC.cell bk 26 _ e0))
  wr := fun w bs ph q F _ bk _ _ _ e0 h => (nodesWrite_nil gk _ w (OC.cell bk 26 _ e0)).mono fun _ _ ⟨a, b⟩ => ⟨a, b ▸ bk, F, h, fun _ q => Or.inl q, b ▸ Out.refl _ _⟩
  ho := fun w bs q F _ bk _ _ e0 _ _ => Calls.nil1 (nodesHold_nil gk _ w (OC.cell bk 26 _ e0))
  gr := fun w bs n v F _ bk _ _ _ e0 e4 h => (nodesGrow_nil gk _ _ w (OC.cell bk 26 _ e0)).mono fun _ _ ⟨a, b⟩ => ⟨a, v, F, by rw [set_self e4]; exact b ▸ bk, h, fun _ q => Or.inl q, b ▸ Out.refl _ _⟩
  hg := fun w bs v F bk _ _ e0 _ _ => Calls.nil1 (nodesHold_nil gk _ w (OC.cell bk 26 _ e0))
def KC.no_writes (B gk id0 : Nat) : KC B gk 9 id0 where
  m := 0
  v0 := nilV
  v1 := nilV
  U := fun _ => True
  P := fun _ F _ => ∀ g, ¬ F g
  G := fun _ v F _ => v = nilV ∧ ∀ g, ¬ F g
  ub := fun h _ => h
  pf := fun h _ _ _ _ => h
  gf := fun h _ _ _ _ => h
  pl := fun h g q => (h g q).elim
  gl := fun h g q => (h.2 g q).elim
  start := fun h => ⟨rfl, h⟩
  un := fun w bs bk e0 _ _ => Calls.nil1 (writesUntouched_nil gk w (OC.cell bk 29 _ e0))
  wr := fun w bs ph q F _ bk _ _ _ e0 h => (writesWrite_nil gk _ w (OC.cell bk 29 _ e0)).mono fun _ _ ⟨a, b⟩ => ⟨a, b ▸ bk, F, h, fun _ q => Or.inl q, b ▸ Out.refl _ _⟩
  ho := fun w bs q F _ bk _ _ e0 _ _ => Calls.nil1 (writesHold_nil gk _ w (OC.cell bk 29 _ e0))
  gr := fun w bs n v F _ bk _ _ _ e0 e4 h => (writesGrow_nil gk _ _ w (OC.cell bk 29 _ e0)).mono fun _ _ ⟨a, b⟩ => ⟨a, v, F, by rw [set_self e4]; exact b ▸ bk, h, fun _ q => Or.inl q, b ▸ Out.refl _ _⟩
  hg := fun w bs v F bk _ _ e0 _ _ => Calls.nil1 (writesHold_nil gk _ w (OC.cell bk 29 _ e0))
def KC.no_changes (B gk id0 : Nat) : KC B gk 10 id0 where
  m := 0
  v0 := nilV
  v1 := nilV
  U := fun _ => True
  P := fun _ F _ => ∀ g, ¬ F g
  G := fun _ v F _ => v = nilV ∧ ∀ g, ¬ F g
  ub := fun h _ => h
  pf := fun h _ _ _ _ => h
  gf := fun h _ _ _ _ => h
  pl := fun h g q => (h g q).elim
  gl := fun h g q => (h.2 g q).elim
  start := fun h => ⟨rfl, h⟩
  un := fun w bs bk e0 _ _ => Calls.nil1 (changesUntouched_nil gk w (OC.cell bk 32 _ e0))
  wr := fun w bs ph q F _ bk _ _ _ e0 h => (changesWrite_nil gk _ w (OC.cell bk 32 _ e0)).mono fun _ _ ⟨a, b⟩ => ⟨a, b ▸ bk, F, h, fun _ q => Or.inl q, b ▸ Out.refl _ _⟩
  ho := fun w bs q F _ bk _ _ e0 _ _ => Calls.nil1 (changesHold_nil gk _ w (OC.cell bk 32 _ e0))
  gr := fun w bs n v F _ bk _ _ _ e0 e4 h => (changesGrow_nil gk _ _ w (OC.cell bk 32 _ e0)).mono fun _ _ ⟨a, b⟩ => ⟨a, v, F, by rw [set_self e4]; exact b ▸ bk, h, fun _ q => Or.inl q, b ▸ Out.refl _ _⟩
  hg := fun w bs v F bk _ _ e0 _ _ => Calls.nil1 (changesHold_nil gk _ w (OC.cell bk 32 _ e0))
def KC.no_fates (B gk id0 : Nat) : KC B gk 11 id0 where
  m := 0
  v0 := nilV
  v1 := nilV
  U := fun _ => True
  P := fun _ F _ => ∀ g, ¬ F g
  G := fun _ v F _ => v = nilV ∧ ∀ g, ¬ F g
  ub := fun h _ => h
  pf := fun h _ _ _ _ => h
  gf := fun h _ _ _ _ => h
  pl := fun h g q => (h g q).elim
  gl := fun h g q => (h.2 g q).elim
  start := fun h => ⟨rfl, h⟩
  un := fun w bs bk e0 _ _ => Calls.nil1 (fatesUntouched_nil gk w (OC.cell bk 35 _ e0))
  wr := fun w bs ph q F _ bk _ _ _ e0 h => (fatesWrite_nil gk _ w (OC.cell bk 35 _ e0)).mono fun _ _ ⟨a, b⟩ => ⟨a, b ▸ bk, F, h, fun _ q => Or.inl q, b ▸ Out.refl _ _⟩
  ho := fun w bs q F _ bk _ _ e0 _ _ => Calls.nil1 (fatesHold_nil gk _ w (OC.cell bk 35 _ e0))
  gr := fun w bs n v F _ bk _ _ _ e0 e4 h => (fatesGrow_nil gk _ _ w (OC.cell bk 35 _ e0)).mono fun _ _ ⟨a, b⟩ => ⟨a, v, F, by rw [set_self e4]; exact b ▸ bk, h, fun _ q => Or.inl q, b ▸ Out.refl _ _⟩
  hg := fun w bs v F bk _ _ e0 _ _ => Calls.nil1 (fatesHold_nil gk _ w (OC.cell bk 35 _ e0))
def KC.no_ops (B gk id0 : Nat) : KC B gk 12 id0 where
  m := 0
  v0 := nilV
  v1 := nilV
  U := fun _ => True
  P := fun _ F _ => ∀ g, ¬ F g
  G := fun _ v F _ => v = nilV ∧ ∀ g, ¬ F g
  ub := fun h _ => h
  pf := fun h _ _ _ _ => h
  gf := fun h _ _ _ _ => h
  pl := fun h g q => (h g q).elim
  gl := fun h g q => (h.2 g q).elim
  start := fun h => ⟨rfl, h⟩
  un := fun w bs bk e0 _ _ => Calls.nil1 (opsUntouched_nil gk w (OC.cell bk 38 _ e0))
  wr := fun w bs ph q F _ bk _ _ _ e0 h => (opsWrite_nil gk _ w (OC.cell bk 38 _ e0)).mono fun _ _ ⟨a, b⟩ => ⟨a, b ▸ bk, F, h, fun _ q => Or.inl q, b ▸ Out.refl _ _⟩
  ho := fun w bs q F _ bk _ _ e0 _ _ => Calls.nil1 (opsHold_nil gk _ w (OC.cell bk 38 _ e0))
  gr := fun w bs n v F _ bk _ _ _ e0 e4 h => (opsGrow_nil gk _ _ w (OC.cell bk 38 _ e0)).mono fun _ _ ⟨a, b⟩ => ⟨a, v, F, by rw [set_self e4]; exact b ▸ bk, h, fun _ q => Or.inl q, b ▸ Out.refl _ _⟩
  hg := fun w bs v F bk _ _ e0 _ _ => Calls.nil1 (opsHold_nil gk _ w (OC.cell bk 38 _ e0))
theorem LS.lo {w : World} {base e sz rt n c : Nat} {A : Option Addr} {ps : List Slot} {css : List (List Value)} (h : LS w base e sz rt A n c ps css) {g : Nat} (q : Blk A ps g) : base ≤ g := by
  rcases q with q | ⟨a, ea, rfl⟩
  · exact InPs.base h q
  · exact (h.row.lt a ea).2
theorem GSt.done {w : World} {base B2 e sz rt m cb : Nat} {Ab : Option Addr} {ps : List Slot} {css : List (List Value)} {M : List (List Value) → Prop} {K t mg cg : Nat} {Ag : Option Addr} {F : Nat → Prop} (h : GSt w base B2 e sz rt m cb Ab ps css M K t mg cg Ag F) (ht : 0 < t) : ∃ qs zss, mg = m ∧ RS w sz Ab m cb ps css ∧ RS w sz Ag m cg qs zss ∧ M zss ∧ (∀ zs ∈ zss, zs.length ≤ (K + t) * sz) := by
  rcases h.now with ⟨z, _⟩ | ⟨_, e1, qs, zss, rg, gr, hm, hl, _, _⟩
  · omega
  · exact ⟨qs, zss, e1, gr.old (GC.read h.ra), gr.now (GC.read rg), hm, hl⟩
/-- lists of a kind whose marks are told by their values. -/
def KC.lists {B gk i id0 : Nat} (base e sz rt m K : Nat) (r : Row) (sv1 : Value) (M : Nat → List (List Value) → Prop) (U : World → Prop) (hB : B ≤ base) (ub : ∀ {w w' : World}, U w → Below w.heap.size w w' → U w')
    (un : ∀ (w : World) (bs : List Value), Bk w gk bs → bs[2 + 3 * i]? = some (r.v m) → bs[3 + 3 * i]? = some sv1 → U w → Calls Tryz.prog (fUs i) #[.pointer (some ⟨gk, 0, none⟩)] w fun e w' => e = .returned (.bool true) ∧ Below w.heap.size w w')
    (hw : ∀ (w : World) (bs : List Value) (css : List (List Value)) (q : Nat), q ≤ 1 → Bk w gk bs → bs[1]? = some (.int .i64 (q : Int)) → bs[2 + 3 * i]? = some (r.v m) → LS w base e sz rt r.A m r.c r.ps css → (∀ cs ∈ css, cs.length ≤ K * sz) → Calls Tryz.prog (fWs i) #[.pointer (some ⟨gk, 0, none⟩), .int .i64 (id0 : Int)] w fun en w' => ∃ css', en = .returned (.int .i64 ((id0 + m : Nat) : Int)) ∧ LS w' base e sz rt r.A m r.c r.ps css' ∧ M q css' ∧ Bk w' gk bs ∧ Out (InPs r.ps) w w')
    (hh : ∀ (w : World) (bs : List Value) (css zss : List (List Value)) (Ag : Option Addr) (mg cg : Nat) (qs : List Slot) (q : Nat), q ≤ 1 → Bk w gk bs → bs[1]? = some (.int .i64 (q : Int)) → bs[2 + 3 * i]? = some (r.v m) → bs[4 + 3 * i]? = some (.slice Ag mg cg) → RS w sz r.A m r.c r.ps css → M q css → (∀ cs ∈ css, cs.length ≤ K * sz) → RS w sz Ag mg cg qs zss → (mg = 0 ∨ mg = m) → M q zss → (∀ cs ∈ zss, cs.length ≤ (K + 70) * sz) → Calls Tryz.prog (fHs i) #[.pointer (some ⟨gk, 0, none⟩), .int .i64 (id0 : Int)] w fun en w' => en = .returned (.tuple #[.int .i64 ((id0 + m : Nat) : Int), .bool true]) ∧ Below w.heap.size w w')
    (hg : ∀ (w : World) (bs : List Value) (css : List (List Value)) (B2 n mg cg : Nat) (Ag : Option Addr) (F : Nat → Prop), n < 70 → Bk w gk bs → bs[1]? = some (.int .i64 1) → bs[2 + 3 * i]? = some (r.v m) → bs[4 + 3 * i]? = some (.slice Ag mg cg) → GSt w base B2 e sz rt m r.c r.A r.ps css (M 1) K n mg cg Ag F → base ≤ w.heap.size → B2 ≤ w.heap.size → Calls Tryz.prog (fGs i) #[.pointer (some ⟨gk, 0, none⟩), .int .i64 (id0 : Int), .int .i64 (n : Int)] w (GrOut gk base B2 e sz rt m r.c id0 K n (4 + 3 * i) r.A r.ps css (M 1) bs F w))
    (hM : ∀ q, M q []) : KC B gk i id0 where
  m := m
  v0 := r.v m
  v1 := sv1
  U := U
  P := fun ph F w => (∀ g, F g ↔ Blk r.A r.ps g) ∧ base ≤ w.heap.size ∧ ∃ css, LS w base e sz rt r.A m r.c r.ps css ∧ (∀ cs ∈ css, cs.length ≤ K * sz) ∧ (∀ q, ph = q + 1 → M q css)
  G := fun n v F w => ∃ (Ag : Option Addr) (mg cg B2 : Nat) (css : List (List Value)), v = .slice Ag mg cg ∧ base ≤ w.heap.size ∧ B2 ≤ w.heap.size ∧ GSt w base B2 e sz rt m r.c r.A r.ps css (M 1) K n mg cg Ag F ∧ M 1 css ∧ (∀ cs ∈ css, cs.length ≤ K * sz) ∧ (∀ g, F g → B ≤ g)
  ub := ub
  pf := fun {ph F E w w'} h ou d _ _ => by
    obtain ⟨hf, hb, css, ls, l, hm⟩ := h
    exact ⟨hf, Nat.le_trans hb ou.size, css, ls.outDj ou (fun g q => d g ((hf g).2 q)), l, hm⟩
  gf := fun {n v F E w w'} h ou d _ _ => by
    obtain ⟨Ag, mg, cg, B2, css, e1, h1, h2, g, hm, l, hf⟩ := h
    exact ⟨Ag, mg, cg, B2, css, e1, Nat.le_trans h1 ou.size, Nat.le_trans h2 ou.size, g.out ou d, hm, l, hf⟩
  pl := fun {ph F w} h g q => by
    obtain ⟨hf, hb, css, ls, l, hm⟩ := h
    exact ⟨Nat.le_trans hB (ls.lo ((hf g).1 q)), ls.blk ((hf g).1 q)⟩
  gl := fun {n v F w} h g q => by
    obtain ⟨Ag, mg, cg, B2, css, e1, h1, h2, gs, hm, l, hf⟩ := h
    exact ⟨hf g q, gs.fl g q⟩
  start := fun {F w} h => by
    obtain ⟨hf, hb, css, ls, l, hm⟩ := h
    obtain rfl : F = Blk r.A r.ps := funext fun g => propext (hf g)
    exact ⟨none, 0, 0, w.heap.size, css, rfl, hb, Nat.le_refl _, ls.gst (hm 1 rfl) l, hm 1 rfl, l, fun g q => Nat.le_trans hB (ls.lo q)⟩
  un := un
  wr := fun w bs ph q F hq bk _ _ e1 e2 h => by
    obtain ⟨hf, hb, css, ls, l, hm⟩ := h
    refine (hw w bs css q hq bk e1 e2 ls l).mono ?_
    rintro en w' ⟨css', rfl, ls', hm', bk', ou⟩
    have ouF : Out F w w' := ou.mono fun g z => (hf g).2 (Or.inl z)
    exact ⟨rfl, bk', F, ⟨hf, Nat.le_trans hb ou.size, css', ls', ls.lens ls' l, fun q' e => by cases e; exact hm'⟩, fun _ z => Or.inl z, ouF⟩
  ho := fun w bs q F hq bk _ e1 e2 e4 h => by
    obtain ⟨hf, hb, css, ls, l, hm⟩ := h
    exact hh w bs css [] none 0 0 [] q hq bk e1 e2 e4 ls.read (hm q rfl) l (RS.none _ _) (Or.inl rfl) (hM q) (fun cs hc => by cases hc)
  gr := fun w bs n v F hn bk hBw _ e1 e2 e4 h => by
    obtain ⟨Ag, mg, cg, B2, css, rfl, h1, h2, gs, hm, l, hf⟩ := h
    refine (hg w bs css B2 n mg cg Ag F hn bk e1 e2 e4 gs h1 h2).mono ?_
    rintro en w' ⟨Ag', cg', F', rfl, gs', bk', hs, ou⟩
    refine ⟨rfl, _, F', bk', ⟨Ag', m, cg', B2, css, rfl, Nat.le_trans h1 ou.size, Nat.le_trans h2 ou.size, gs', hm, l, fun g q => ?_⟩, hs, ou⟩
    rcases hs g q with z | z
    · exact hf g z
    · exact Nat.le_trans hBw z
  hg := fun w bs v F bk _ e1 e2 e4 h => by
    obtain ⟨Ag, mg, cg, B2, css, rfl, h1, h2, gs, hm, l, hf⟩ := h
    obtain ⟨qs, zss, rfl, r1, r2, r3, r4⟩ := gs.done (by decide)
    exact hh w bs css zss Ag mg cg qs 1 (Nat.le_refl _) bk e1 e2 e4 r1 hm l r2 (Or.inr rfl) r3 r4
end Go.Proofs.YtmeakhiiebeneaaGreatDoor
namespace Go.Proofs.YtmeakhiiebeneaaGreatDoor
open Go.RowKit

theorem ShortB.of1 {css : List (List Value)} (h : ∀ cs ∈ css, cs.length ≤ 900000 * 1) : ShortB css := fun cs hc => by have := h cs hc; omega
def UB (base m : Nat) (r s : Row) (xss : List (List UInt8)) (w : World) : Prop := Kp w base 5 1 40 m r s (xss.map u8s) (xss.map u8s)
def KC.bytes {B gk id0 : Nat} (base m : Nat) (r s : Row) (xss : List (List UInt8)) (hB : B ≤ base) (hm : m ≤ 900000) (hid : id0 ≤ 1000000) : KC B gk 0 id0 :=
  KC.lists base 5 1 40 m 900000 r (s.v m) (fun q css => MarkedB (q : Int) id0 m css) (UB base m r s xss) hB (fun h b => Kp.below h b)
    (fun w bs bk e0 e1 h => (bytesUntouched_calls gk m r.c s.c r.A s.A _ _ xss w (OC.cell bk 2 _ e0) (OC.cell bk 3 _ e1) h.ls.read.rm h.lw.read.rm (by omega)).mono fun _ _ ⟨a, j, e⟩ => ⟨a, e ▸ below_drewN (Below.refl _ _) j⟩)
    (fun w bs css q hq bk e1 e2 ls l => (bytesWrite_calls gk base m r.c id0 (q : Int) r.A r.ps bs css w bk e1 e2 ls (ShortB.of1 l) (by omega) hid).mono fun _ _ ⟨css', a, b, _, d, f, g⟩ => ⟨css', a, b, d, f, g⟩)
    (fun w bs css zss Ag mg cg qs q hq bk e1 e2 e4 h1 k1 l1 h2 hmg k2 l2 => (bytesHold_calls gk m r.c mg cg id0 (q : Int) r.A Ag r.ps qs css zss w (OC.cell bk 1 _ e1) (OC.cell bk 2 _ e2) (OC.cell bk 4 _ e4) h1 k1 (fun cs hc => by have := l1 cs hc; omega) h2 hmg k2 (fun cs hc => by have := l2 cs hc; omega) (by omega) hid).mono fun _ _ ⟨a, b⟩ => ⟨a, b ▸ Below.refl _ _⟩)
    (fun w bs css B2 n mg cg Ag F hn bk e1 e2 e4 g h1 h2 => bytesGrow_t gk base B2 m r.c id0 900000 n mg cg 1 r.A Ag r.ps bs css F w bk e1 e2 e4 g (by omega) (by omega) hm hid h1 h2)
    (fun q => MarkedB.nil _ _ _)
theorem MarkN.cast (q id0 m : Nat) (css : List (List Value)) (h : MarkR (mkN (q : Int)) id0 m css) : MarkR (mkN (q : Int)) id0 m css := h
def UN (base m : Nat) (r s : Row) (xss : List (List Int)) (w : World) : Prop := Kp w base 3 1 63 m r s (xss.map i64s) (xss.map i64s)
def KC.ints {B gk id0 : Nat} (base m : Nat) (r s : Row) (xss : List (List Int)) (hB : B ≤ base) (hm : m ≤ 900000) (hid : id0 ≤ 1000000) : KC B gk 1 id0 :=
  KC.lists base 3 1 63 m 900000 r (s.v m) (fun q css => MarkR (mkN (q : Int)) id0 m css) (UN base m r s xss) hB (fun h b => Kp.below h b)
    (fun w bs bk e0 e1 h => intsUntouched_calls gk base m r s xss w (OC.cell bk 5 _ e0) (OC.cell bk 6 _ e1) h (by omega))
    (fun w bs css q hq bk e1 e2 ls l => intsWrite_calls gk base m r.c id0 900000 (q : Int) r.A r.ps bs css w bk e1 e2 ls l (by omega) hid (by omega) (by omega) (by omega))
    (fun w bs css zss Ag mg cg qs q hq bk e1 e2 e4 h1 k1 l1 h2 hmg k2 l2 => intsHold_calls gk m r.c mg cg id0 900000 (900000 + 70) (q : Int) r.A Ag r.ps qs css zss w (OC.cell bk 1 _ e1) (OC.cell bk 5 _ e2) (OC.cell bk 7 _ e4) h1 k1 l1 h2 hmg k2 l2 (by omega) hid (by omega) (by omega) (by omega) (by omega))
    (fun w bs css B2 n mg cg Ag F hn bk e1 e2 e4 g h1 h2 => intsGrow_t gk base B2 m r.c id0 900000 n mg cg 1 r.A Ag r.ps bs css F w bk e1 e2 e4 g (by omega) (by omega) hm hid h1 h2 (by omega) (by omega))
    (fun q => MarkR.nil _ _ _)
end Go.Proofs.YtmeakhiiebeneaaGreatDoor
namespace Go.Proofs.YtmeakhiiebeneaaGreatDoor
open Go.RowKit

def KC.byteLists {B gk id0 : Nat} (base m : Nat) (t u : Row) (pss qss : List (List Slot)) (xsss : List (List (List UInt8))) (hB : B ≤ base) (hm : m ≤ 900000) (hid : id0 ≤ 3000000) : KC B gk 3 id0 where
  m := m
  v0 := t.v m
  v1 := u.v m
  U := fun w => Kl w base m t u pss qss xsss
  P := fun ph F w => Tb B w ∧ base ≤ w.heap.size ∧ (∀ g, F g → B ≤ g ∧ g < w.heap.size) ∧ (∀ g, Blk t.A t.ps g → F g) ∧ ∃ css, LS w base 40 1 25 t.A m t.c t.ps css ∧ (∀ cs ∈ css, cs.length ≤ 900000) ∧ (∀ q : Nat, ph = q + 1 → MarkM w F (q : Int) id0 m css)
  G := fun n v F w => Tb B w ∧ (∀ g, F g → B ≤ g) ∧ ∃ (Ag : Option Addr) (mg cg B2 : Nat) (css : List (List Value)), v = .slice Ag mg cg ∧ base ≤ w.heap.size ∧ B2 ≤ w.heap.size ∧ GStM w base B2 m t.c t.A t.ps css 1 id0 900000 n mg cg Ag F ∧ (∀ cs ∈ css, cs.length ≤ 900000)
  ub := fun h b => Kl.below h b
  pf := fun {ph F E w w'} h ou d hE hBw => by
    obtain ⟨tb, hb, hf, hk, css, ls, l, hm⟩ := h
    exact ⟨tb.next (ou.below hBw hE), Nat.le_trans hb ou.size, fun g q => ⟨(hf g q).1, Nat.lt_of_lt_of_le (hf g q).2 ou.size⟩, hk, css, ls.outDj ou (fun g q => d g (hk g q)), l, fun q e => (hm q e).same fun g uu f => ou.sm uu.lt (d g f)⟩
  gf := fun {n v F E w w'} h ou d hE hBw => by
    obtain ⟨tb, hf, Ag, mg, cg, B2, css, e1, h1, h2, g, l⟩ := h
    exact ⟨tb.next (ou.below hBw hE), hf, Ag, mg, cg, B2, css, e1, Nat.le_trans h1 ou.size, Nat.le_trans h2 ou.size, g.out ou d, l⟩
  pl := fun {ph F w} h g q => by
    obtain ⟨tb, hb, hf, _⟩ := h
    exact hf g q
  gl := fun {n v F w} h g q => by
    obtain ⟨tb, hf, Ag, mg, cg, B2, css, e1, h1, h2, gs, l⟩ := h
    exact ⟨hf g q, gs.fl g q⟩
  start := fun {F w} h => by
    obtain ⟨tb, hb, hf, hk, css, ls, l, hm⟩ := h
    exact ⟨tb, fun g q => (hf g q).1, none, 0, 0, w.heap.size, css, rfl, hb, Nat.le_refl _, ⟨ls.row, fun a e => (ls.row.lt a e).1, fun g q => (hf g q).2, fun g q => hk g (Or.inl q), fun g q => hk g (Or.inr q), hm 1 rfl, Or.inl ⟨rfl, rfl, rfl, rfl, GR.start _ ls, l⟩⟩, l⟩
  un := fun w bs bk e0 e1 h => byteListsUntouched_calls gk base m t u pss qss xsss w (OC.cell bk 11 _ e0) (OC.cell bk 12 _ e1) h (by omega)
  wr := fun w bs ph q F hq bk hBw hg e1 e2 h => by
    obtain ⟨tb, hb, hf, hk, css, ls, l, hm'⟩ := h
    refine (byteListsWrite_calls B gk base m t.c id0 900000 (q : Int) t.A t.ps bs css w bk tb hBw hB e1 e2 ls l (by omega) hid (by omega) (by omega) (by decide)).mono ?_
    rintro en w' ⟨css', rfl, ls', mk', bk', ou⟩
    have ouF : Out F w w' := ou.mono fun g z => hk g (Or.inl z)
    refine ⟨rfl, bk', fun g => Blk t.A t.ps g ∨ (w.heap.size ≤ g ∧ g < w'.heap.size), ⟨tb.next (ouF.below hBw fun g z => (hf g z).1), Nat.le_trans hb ou.size, ?_, fun g z => Or.inl z, css', ls', fun cs hc => by have := ls.lens (K := 900000) ls' l cs hc; exact this, fun q' e => ?_⟩, ?_, ouF⟩
    · rintro g (z | z)
      · exact ⟨(hf g (hk g z)).1, Nat.lt_of_lt_of_le (hf g (hk g z)).2 ou.size⟩
      · exact ⟨Nat.le_trans hBw z.1, z.2⟩
    · cases e
      exact mk'.imp fun g uu z => Or.inr ⟨z, uu.lt⟩
    · rintro g (z | z)
      · exact Or.inl (hk g z)
      · exact Or.inr z.1
  ho := fun w bs q F hq bk hBw e1 e2 e4 h => by
    obtain ⟨tb, hb, hf, hk, css, ls, l, hm'⟩ := h
    exact byteListsHold_calls B gk m t.c 0 0 id0 900000 900000 F (q : Int) t.A none t.ps [] css [] w tb hBw (OC.cell bk 1 _ e1) (OC.cell bk 11 _ e2) (OC.cell bk 13 _ e4) ls.read (hm' q rfl) l (RS.none _ _) (Or.inl rfl) (MarkM.nil _ _ _ _ _) (fun cs hc => by cases hc) (by omega) hid (by omega) (by omega) (by decide) (by decide)
  gr := fun w bs n v F hn bk hBw hg e1 e2 e4 h => by
    obtain ⟨tb, hf, Ag, mg, cg, B2, css, rfl, h1, h2, gs, l⟩ := h
    refine (byteListsGrow_t B gk base B2 m t.c id0 900000 n mg cg 1 t.A Ag t.ps bs css F w tb hBw hg hf bk e1 e2 e4 gs (by omega) (by decide) hm hid h1 h2 (by decide) (by decide)).mono ?_
    rintro en w' ⟨Ag', cg', F', rfl, gs', bk', hs, ou⟩
    refine ⟨rfl, _, F', bk', ⟨tb.next (ou.below hBw fun g z => ?_), fun g q => ?_, Ag', m, cg', B2, css, rfl, Nat.le_trans h1 ou.size, Nat.le_trans h2 ou.size, gs', l⟩, hs, ou⟩
    · rcases z with rfl | z
      · exact hg
      · exact hf g z
    · rcases hs g q with z | z
      · exact hf g z
      · exact Nat.le_trans hBw z
  hg := fun w bs v F bk hBw e1 e2 e4 h => by
    obtain ⟨tb, hf, Ag, mg, cg, B2, css, rfl, h1, h2, gs, l⟩ := h
    rcases gs.now with ⟨z, _⟩ | ⟨_, rfl, qs, zss, rg, gr, hm', hl, _, _⟩
    · omega
    · exact byteListsHold_calls B gk mg t.c mg cg id0 900000 (900000 + 70) F 1 t.A Ag t.ps qs css zss w tb hBw (OC.cell bk 1 _ e1) (OC.cell bk 11 _ e2) (OC.cell bk 13 _ e4) (gr.old (GC.read gs.ra)) gs.mar l (gr.now (GC.read rg)) (Or.inr rfl) hm' hl (by omega) hid (by decide) (by decide) (by decide) (by decide)
end Go.Proofs.YtmeakhiiebeneaaGreatDoor
namespace Go.Proofs.YtmeakhiiebeneaaGreatDoor
open Go.RowKit

def bookC (b bw i iw l lw : Value) : List Value := [.int .i64 0, .int .i64 0, b, bw, nilV, i, iw, nilV, nilV, nilV, nilV, l, lw, nilV, nilV, nilV, nilV, nilV, nilV, nilV, nilV, nilV, nilV, nilV, nilV, nilV, nilV, nilV, nilV, nilV, nilV, nilV, nilV, nilV, nilV, nilV, nilV, nilV, nilV, nilV, nilV]
def chS (mb mi ml : Nat) : Nat → Nat
  | 0 => 0
  | 1 => mb
  | 2 => mb + mi
  | 3 => mb + mi
  | _ + 4 => mb + mi + ml
def chK {B gk : Nat} (base mb mi ml : Nat) (r s a b t u : Row) (xss : List (List UInt8)) (iss : List (List Int)) (pss qss : List (List Slot)) (xsss : List (List (List UInt8))) (hB : B ≤ base) (h1 : mb ≤ 800000) (h2 : mi ≤ 800000) (h3 : ml ≤ 800000) : (i : Nat) → i < 13 → KC B gk i (chS mb mi ml i)
  | 0, _ => KC.bytes base mb r s xss hB (by omega) (show 0 ≤ 1000000 by decide)
  | 1, _ => KC.ints base mi a b iss hB (by omega) (show mb ≤ 1000000 by omega)
  | 2, _ => KC.no_texts B gk _
  | 3, _ => KC.byteLists base ml t u pss qss xsss hB (by omega) (show mb + mi ≤ 3000000 by omega)
  | 4, _ => KC.no_intLists B gk _
  | 5, _ => KC.no_pairs B gk _
  | 6, _ => KC.no_items B gk _
  | 7, _ => KC.no_kids B gk _
  | 8, _ => KC.no_nodes B gk _
  | 9, _ => KC.no_writes B gk _
  | 10, _ => KC.no_changes B gk _
  | 11, _ => KC.no_fates B gk _
  | 12, _ => KC.no_ops B gk _
  | n + 13, h => absurd h (by omega)
def chF {B gk : Nat} (base mb mi ml : Nat) (r s a b t u : Row) (xss : List (List UInt8)) (iss : List (List Int)) (pss qss : List (List Slot)) (xsss : List (List (List UInt8))) (hB : B ≤ base) (h1 : mb ≤ 800000) (h2 : mi ≤ 800000) (h3 : ml ≤ 800000) : KF B gk where
  S := chS mb mi ml
  K := chK base mb mi ml r s a b t u xss iss pss qss xsss hB h1 h2 h3
  s0 := rfl
  s1 := fun i hi => by
    match i, hi with
    | 0, _ => exact (Nat.zero_add _).symm
    | 1, _ => exact rfl
    | 2, _ => exact rfl
    | 3, _ => exact rfl
    | 4, _ => exact rfl
    | 5, _ => exact rfl
    | 6, _ => exact rfl
    | 7, _ => exact rfl
    | 8, _ => exact rfl
    | 9, _ => exact rfl
    | 10, _ => exact rfl
    | 11, _ => exact rfl
    | 12, _ => exact rfl
    | n + 13, h => exact absurd h (by omega)
/-- the blocks of each kind. -/
def chB (r a t : Row) : Nat → Nat → Prop
  | 0 => Blk r.A r.ps
  | 1 => Blk a.A a.ps
  | 3 => Blk t.A t.ps
  | _ => fun _ => False
/-- a book with lists of bytes, of ints and of lists of bytes. -/
structure Kc (w : World) (base mb mi ml : Nat) (r s a b t u : Row) (xss : List (List UInt8)) (iss : List (List Int)) (pss qss : List (List Slot)) (xsss : List (List (List UInt8))) : Prop where
  kb : Kp w base 5 1 40 mb r s (xss.map u8s) (xss.map u8s)
  ki : Kp w base 3 1 63 mi a b (iss.map i64s) (iss.map i64s)
  kl : Kl w base ml t u pss qss xsss
  dj : Djl r s t u
theorem Kc.below {w w' : World} {base mb mi ml : Nat} {r s a b t u : Row} {xss : List (List UInt8)} {iss : List (List Int)} {pss qss : List (List Slot)} {xsss : List (List (List UInt8))} (h : Kc w base mb mi ml r s a b t u xss iss pss qss xsss) (x : Below w.heap.size w w') : Kc w' base mb mi ml r s a b t u xss iss pss qss xsss :=
  ⟨h.kb.below x, h.ki.below x, h.kl.below x, h.dj⟩
theorem Kc.no (w : World) (base : Nat) : Kc w base 0 0 0 Row.no Row.no Row.no Row.no Row.no Row.no [] [] [] [] [] :=
  ⟨Kp.no _ _ _ _ _, Kp.no _ _ _ _ _, Kl.no _ _, fun g q => by rcases q with ⟨p, hp, _⟩ | ⟨p, hp, _⟩ <;> cases hp⟩
theorem Kc.djs {w : World} {base mb mi ml : Nat} {r s a b t u : Row} {xss : List (List UInt8)} {iss : List (List Int)} {pss qss : List (List Slot)} {xsss : List (List (List UInt8))} (h : Kc w base mb mi ml r s a b t u xss iss pss qss xsss) : (∀ i j, i < 13 → j < 13 → i ≠ j → Dj (chB r a t i) (chB r a t j)) := by
  have d01 : Dj (Blk r.A r.ps) (Blk a.A a.ps) := h.kb.ls.blkDj h.ki.ls (by decide) (by decide) (by decide) (by decide)
  have d31 : Dj (Blk t.A t.ps) (Blk a.A a.ps) := h.kl.kp.ls.blkDj h.ki.ls (by decide) (by decide) (by decide) (by decide)
  have d03 : Dj (Blk r.A r.ps) (Blk t.A t.ps) := by
    rintro g (q | q) (z | z)
    · exact absurd (ty_ne (h.kb.ls.inb q) (h.kl.kp.ls.inb z)) (by decide)
    · exact absurd (ty_ne (h.kb.ls.inb q) (h.kl.kp.ls.row.atb z)) (by decide)
    · exact (h.dj g (Or.inl z)).1 q
    · exact absurd (ty_ne (h.kb.ls.row.atb q) (h.kl.kp.ls.row.atb z)) (by decide)
  have key : ∀ i, chB r a t i = Blk r.A r.ps ∧ i = 0 ∨ chB r a t i = Blk a.A a.ps ∧ i = 1 ∨ chB r a t i = Blk t.A t.ps ∧ i = 3 ∨ chB r a t i = fun _ => False := fun i => by
    match i with
    | 0 => exact Or.inl ⟨rfl, rfl⟩
    | 1 => exact Or.inr (Or.inl ⟨rfl, rfl⟩)
    | 2 => exact Or.inr (Or.inr (Or.inr rfl))
    | 3 => exact Or.inr (Or.inr (Or.inl ⟨rfl, rfl⟩))
    | n + 4 => exact Or.inr (Or.inr (Or.inr rfl))
  have sym : ∀ {F G : Nat → Prop}, Dj F G → Dj G F := fun d g x y => d g y x
  intro i j _ _ ne
  rcases key i with ⟨e, rfl⟩ | ⟨e, rfl⟩ | ⟨e, rfl⟩ | e <;> rcases key j with ⟨e', rfl⟩ | ⟨e', rfl⟩ | ⟨e', rfl⟩ | e' <;> first | exact absurd rfl ne | rw [e, e']
  · exact d01
  · exact d03
  · exact fun _ _ z => z
  · exact sym d01
  · exact sym d31
  · exact fun _ _ z => z
  · exact sym d03
  · exact d31
  · exact fun _ _ z => z
  · exact fun _ z _ => z
  · exact fun _ z _ => z
  · exact fun _ z _ => z
  · exact fun _ z _ => z
theorem LS.notBk {w : World} {gk base e sz rt n c : Nat} {A : Option Addr} {ps : List Slot} {css : List (List Value)} {bs : List Value} (h : LS w base e sz rt A n c ps css) (bk : Bk w gk bs) (n1 : 39 ≠ e) (n2 : 39 ≠ rt) : ¬ Blk A ps gk := by
  rintro (q | q)
  · exact n1 (ty_ne ⟨_, _, _, bk⟩ (h.inb q))
  · exact n2 (ty_ne ⟨_, _, _, bk⟩ (h.row.atb q))
theorem Finish_C {B gk : Nat} (base mb mi ml : Nat) (r s a b t u : Row) (xss : List (List UInt8)) (iss : List (List Int)) (pss qss : List (List Slot)) (xsss : List (List (List UInt8))) (w0 w : World) (hk : Bk w gk (bookC (r.v mb) (s.v mb) (a.v mi) (b.v mi) (t.v ml) (u.v ml))) (h : Kc w base mb mi ml r s a b t u xss iss pss qss xsss) (tb : Tb B w) (b0 : Below B w0 w) (hBw : B ≤ w.heap.size) (hB : B ≤ base) (hg : B ≤ gk) (hb : base ≤ w.heap.size) (h1 : mb ≤ 800000) (h2 : mi ≤ 800000) (h3 : ml ≤ 800000)
    (l1 : ∀ xs ∈ xss, xs.length ≤ 900000) (l2 : ∀ xs ∈ iss, xs.length ≤ 900000) (l3 : ∀ ps ∈ pss, ps.length ≤ 900000) :
    Calls Tryz.prog 20 #[.pointer (some ⟨gk, 0, none⟩)] w fun e w' => e = .returned (.bool true) ∧ Below B w0 w' := by
  have rd : Rdb (chF (gk := gk) base mb mi ml r s a b t u xss iss pss qss xsss hB h1 h2 h3) 0 (fun _ => nilV) (bookC (r.v mb) (s.v mb) (a.v mi) (b.v mi) (t.v ml) (u.v ml)) := ⟨rfl, rfl, fun i hi => by
    match i, hi with
    | 0, _ => exact ⟨rfl, rfl, rfl⟩
    | 1, _ => exact ⟨rfl, rfl, rfl⟩
    | 2, _ => exact ⟨rfl, rfl, rfl⟩
    | 3, _ => exact ⟨rfl, rfl, rfl⟩
    | 4, _ => exact ⟨rfl, rfl, rfl⟩
    | 5, _ => exact ⟨rfl, rfl, rfl⟩
    | 6, _ => exact ⟨rfl, rfl, rfl⟩
    | 7, _ => exact ⟨rfl, rfl, rfl⟩
    | 8, _ => exact ⟨rfl, rfl, rfl⟩
    | 9, _ => exact ⟨rfl, rfl, rfl⟩
    | 10, _ => exact ⟨rfl, rfl, rfl⟩
    | 11, _ => exact ⟨rfl, rfl, rfl⟩
    | 12, _ => exact ⟨rfl, rfl, rfl⟩
    | n + 13, h => exact absurd h (by omega)⟩
  refine Finish_G (chF (gk := gk) base mb mi ml r s a b t u xss iss pss qss xsss hB h1 h2 h3) w0 w hg ⟨_, hk, rd, fun i hi => ?_⟩ ⟨b0, _, chB r a t, hk, rd, hBw, fun i hi => ?_, h.djs, fun i hi => ?_⟩
  · match i, hi with
    | 0, _ => exact h.kb
    | 1, _ => exact h.ki
    | 2, _ => exact trivial
    | 3, _ => exact h.kl
    | 4, _ => exact trivial
    | 5, _ => exact trivial
    | 6, _ => exact trivial
    | 7, _ => exact trivial
    | 8, _ => exact trivial
    | 9, _ => exact trivial
    | 10, _ => exact trivial
    | 11, _ => exact trivial
    | 12, _ => exact trivial
    | n + 13, h => exact absurd h (by omega)
  · match i, hi with
    | 0, _ => exact ⟨fun g => Iff.rfl, hb, _, h.kb.ls, fun cs hc => by obtain ⟨xs, hx, rfl⟩ := List.mem_map.1 hc; rw [u8s_length]; have := l1 xs hx; omega, fun q e => by cases e⟩
    | 1, _ => exact ⟨fun g => Iff.rfl, hb, _, h.ki.ls, fun cs hc => by obtain ⟨xs, hx, rfl⟩ := List.mem_map.1 hc; rw [i64s_length]; have := l2 xs hx; omega, fun q e => by cases e⟩
    | 2, _ => exact fun g q => q
    | 3, _ => exact ⟨tb, hb, fun g q => ⟨Nat.le_trans hB (h.kl.kp.ls.lo q), h.kl.kp.ls.blk q⟩, fun g q => q, _, h.kl.kp.ls, fun cs hc => by obtain ⟨xs, hx, rfl⟩ := List.mem_map.1 hc; rw [List.length_map]; exact l3 xs hx, fun q e => by cases e⟩
    | 4, _ => exact fun g q => q
    | 5, _ => exact fun g q => q
    | 6, _ => exact fun g q => q
    | 7, _ => exact fun g q => q
    | 8, _ => exact fun g q => q
    | 9, _ => exact fun g q => q
    | 10, _ => exact fun g q => q
    | 11, _ => exact fun g q => q
    | 12, _ => exact fun g q => q
    | n + 13, h => exact absurd h (by omega)
  · match i, hi with
    | 0, _ => exact h.kb.ls.notBk hk (by decide) (by decide)
    | 1, _ => exact h.ki.ls.notBk hk (by decide) (by decide)
    | 2, _ => exact fun q => q
    | 3, _ => exact h.kl.kp.ls.notBk hk (by decide) (by decide)
    | 4, _ => exact fun q => q
    | 5, _ => exact fun q => q
    | 6, _ => exact fun q => q
    | 7, _ => exact fun q => q
    | 8, _ => exact fun q => q
    | 9, _ => exact fun q => q
    | 10, _ => exact fun q => q
    | 11, _ => exact fun q => q
    | 12, _ => exact fun q => q
    | n + 13, h => exact absurd h (by omega)
end Go.Proofs.YtmeakhiiebeneaaGreatDoor
