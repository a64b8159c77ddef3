/- coppicekept.Book in general: a kind of which nothing is kept; lists whose marks are told by their values. -/
import Derived.Test.YtmeakhiiebeneaaGreatDoorBk
import Derived.Test.YtmeakhiiebeneaaGreatDoorJb
namespace Go.Proofs.YtmeakhiiebeneaaGreatDoor
open Go.RowKit

theorem Calls.nil1 {f : FuncId} {args : Array Value} {w : World} {v : Value} (h : Calls Tryz.prog f args w fun e w' => e = .returned v ∧ w = w') : Calls Tryz.prog f args w fun e w' => e = .returned v ∧ Below w.heap.size w w' :=
  h.mono fun _ _ ⟨a, b⟩ => ⟨a, b ▸ Below.refl _ _⟩
theorem Out.none (w : World) (F : Nat → Prop) : Out F w w := Out.refl _ _
def KC.no_ints (B gk base id0 : Nat) : KC B gk base 1 id0 where
  m := 0
  v0 := nilV
  v1 := nilV
  U := fun _ => True
  P := fun _ F _ => ∀ g, ¬ F g
  G := fun _ v F _ => v = nilV ∧ ∀ g, ¬ F g
  ub := fun h _ => h
  pf := fun h _ _ _ _ => h
  gf := fun h _ _ _ _ => h
  pl := fun h g q => (h g q).elim
  gl := fun h g q => (h.2 g q).elim
  start := fun h => ⟨rfl, h⟩
  un := fun w bs bk e0 _ _ => Calls.nil1 (intsUntouched_nil gk w (OC.cell bk 5 _ e0))
  wr := fun w bs ph q F _ bk _ _ _ e0 h => (intsWrite_nil gk _ w (OC.cell bk 5 _ e0)).mono fun _ _ ⟨a, b⟩ => ⟨a, b ▸ bk, F, h, fun _ q => Or.inl q, b ▸ Out.refl _ _⟩
  ho := fun w bs q F _ bk _ _ e0 _ _ => Calls.nil1 (intsHold_nil gk _ w (OC.cell bk 5 _ e0))
  gr := fun w bs n v F _ bk _ _ _ e0 e4 h => (intsGrow_nil gk _ _ w (OC.cell bk 5 _ e0)).mono fun _ _ ⟨a, b⟩ => ⟨a, v, F, by rw [set_self e4]; exact b ▸ bk, h, fun _ q => Or.inl q, b ▸ Out.refl _ _⟩
  hg := fun w bs v F bk _ _ e0 _ _ => Calls.nil1 (intsHold_nil gk _ w (OC.cell bk 5 _ e0))
def KC.no_texts (B gk base id0 : Nat) : KC B gk base 2 id0 where
  m := 0
  v0 := nilV
  v1 := nilV
  U := fun _ => True
  P := fun _ F _ => ∀ g, ¬ F g
  G := fun _ v F _ => v = nilV ∧ ∀ g, ¬ F g
  ub := fun h _ => h
  pf := fun h _ _ _ _ => h
  gf := fun h _ _ _ _ => h
  pl := fun h g q => (h g q).elim
  gl := fun h g q => (h.2 g q).elim
  start := fun h => ⟨rfl, h⟩
  un := fun w bs bk e0 _ _ => Calls.nil1 (textsUntouched_nil gk w (OC.cell bk 8 _ e0))
  wr := fun w bs ph q F _ bk _ _ _ e0 h => (textsWrite_nil gk _ w (OC.cell bk 8 _ e0)).mono fun _ _ ⟨a, b⟩ => ⟨a, b ▸ bk, F, h, fun _ q => Or.inl q, b ▸ Out.refl _ _⟩
  ho := fun w bs q F _ bk _ _ e0 _ _ => Calls.nil1 (textsHold_nil gk _ w (OC.cell bk 8 _ e0))
  gr := fun w bs n v F _ bk _ _ _ e0 e4 h => (textsGrow_nil gk _ _ w (OC.cell bk 8 _ e0)).mono fun _ _ ⟨a, b⟩ => ⟨a, v, F, by rw [set_self e4]; exact b ▸ bk, h, fun _ q => Or.inl q, b ▸ Out.refl _ _⟩
  hg := fun w bs v F bk _ _ e0 _ _ => Calls.nil1 (textsHold_nil gk _ w (OC.cell bk 8 _ e0))
def KC.no_byteLists (B gk base id0 : Nat) : KC B gk base 3 id0 where
  m := 0
  v0 := nilV
  v1 := nilV
  U := fun _ => True
  P := fun _ F _ => ∀ g, ¬ F g
  G := fun _ v F _ => v = nilV ∧ ∀ g, ¬ F g
  ub := fun h _ => h
  pf := fun h _ _ _ _ => h
  gf := fun h _ _ _ _ => h
  pl := fun h g q => (h g q).elim
  gl := fun h g q => (h.2 g q).elim
  start := fun h => ⟨rfl, h⟩
  un := fun w bs bk e0 _ _ => Calls.nil1 (byteListsUntouched_nil gk w (OC.cell bk 11 _ e0))
  wr := fun w bs ph q F _ bk _ _ _ e0 h => (byteListsWrite_nil gk _ w (OC.cell bk 11 _ e0)).mono fun _ _ ⟨a, b⟩ => ⟨a, b ▸ bk, F, h, fun _ q => Or.inl q, b ▸ Out.refl _ _⟩
  ho := fun w bs q F _ bk _ _ e0 _ _ => Calls.nil1 (byteListsHold_nil gk _ w (OC.cell bk 11 _ e0))
  gr := fun w bs n v F _ bk _ _ _ e0 e4 h => (byteListsGrow_nil gk _ _ w (OC.cell bk 11 _ e0)).mono fun _ _ ⟨a, b⟩ => ⟨a, v, F, by rw [set_self e4]; exact b ▸ bk, h, fun _ q => Or.inl q, b ▸ Out.refl _ _⟩
  hg := fun w bs v F bk _ _ e0 _ _ => Calls.nil1 (byteListsHold_nil gk _ w (OC.cell bk 11 _ e0))
def KC.no_intLists (B gk base id0 : Nat) : KC B gk base 4 id0 where
  m := 0
  v0 := nilV
  v1 := nilV
  U := fun _ => True
  P := fun _ F _ => ∀ g, ¬ F g
  G := fun _ v F _ => v = nilV ∧ ∀ g, ¬ F g
  ub := fun h _ => h
  pf := fun h _ _ _ _ => h
  gf := fun h _ _ _ _ => h
  pl := fun h g q => (h g q).elim
  gl := fun h g q => (h.2 g q).elim
  start := fun h => ⟨rfl, h⟩
  un := fun w bs bk e0 _ _ => Calls.nil1 (intListsUntouched_nil gk w (OC.cell bk 14 _ e0))
  wr := fun w bs ph q F _ bk _ _ _ e0 h => (intListsWrite_nil gk _ w (OC.cell bk 14 _ e0)).mono fun _ _ ⟨a, b⟩ => ⟨a, b ▸ bk, F, h, fun _ q => Or.inl q, b ▸ Out.refl _ _⟩
  ho := fun w bs q F _ bk _ _ e0 _ _ => Calls.nil1 (intListsHold_nil gk _ w (OC.cell bk 14 _ e0))
  gr := fun w bs n v F _ bk _ _ _ e0 e4 h => (intListsGrow_nil gk _ _ w (OC.cell bk 14 _ e0)).mono fun _ _ ⟨a, b⟩ => ⟨a, v, F, by rw [set_self e4]; exact b ▸ bk, h, fun _ q => Or.inl q, b ▸ Out.refl _ _⟩
  hg := fun w bs v F bk _ _ e0 _ _ => Calls.nil1 (intListsHold_nil gk _ w (OC.cell bk 14 _ e0))
def KC.no_pairs (B gk base id0 : Nat) : KC B gk base 5 id0 where
  m := 0
  v0 := nilV
  v1 := nilV
  U := fun _ => True
  P := fun _ F _ => ∀ g, ¬ F g
  G := fun _ v F _ => v = nilV ∧ ∀ g, ¬ F g
  ub := fun h _ => h
  pf := fun h _ _ _ _ => h
  gf := fun h _ _ _ _ => h
  pl := fun h g q => (h g q).elim
  gl := fun h g q => (h.2 g q).elim
  start := fun h => ⟨rfl, h⟩
  un := fun w bs bk e0 _ _ => Calls.nil1 (pairsUntouched_nil gk w (OC.cell bk 17 _ e0))
  wr := fun w bs ph q F _ bk _ _ _ e0 h => (pairsWrite_nil gk _ w (OC.cell bk 17 _ e0)).mono fun _ _ ⟨a, b⟩ => ⟨a, b ▸ bk, F, h, fun _ q => Or.inl q, b ▸ Out.refl _ _⟩
  ho := fun w bs q F _ bk _ _ e0 _ _ => Calls.nil1 (pairsHold_nil gk _ w (OC.cell bk 17 _ e0))
  gr := fun w bs n v F _ bk _ _ _ e0 e4 h => (pairsGrow_nil gk _ _ w (OC.cell bk 17 _ e0)).mono fun _ _ ⟨a, b⟩ => ⟨a, v, F, by rw [set_self e4]; exact b ▸ bk, h, fun _ q => Or.inl q, b ▸ Out.refl _ _⟩
  hg := fun w bs v F bk _ _ e0 _ _ => Calls.nil1 (pairsHold_nil gk _ w (OC.cell bk 17 _ e0))
def KC.no_items (B gk base id0 : Nat) : KC B gk base 6 id0 where
  m := 0
  v0 := nilV
  v1 := nilV
  U := fun _ => True
  P := fun _ F _ => ∀ g, ¬ F g
  G := fun _ v F _ => v = nilV ∧ ∀ g, ¬ F g
  ub := fun h _ => h
  pf := fun h _ _ _ _ => h
  gf := fun h _ _ _ _ => h
  pl := fun h g q => (h g q).elim
  gl := fun h g q => (h.2 g q).elim
  start := fun h => ⟨rfl, h⟩
  un := fun w bs bk e0 _ _ => Calls.nil1 (itemsUntouched_nil gk w (OC.cell bk 20 _ e0))
  wr := fun w bs ph q F _ bk _ _ _ e0 h => (itemsWrite_nil gk _ w (OC.cell bk 20 _ e0)).mono fun _ _ ⟨a, b⟩ => ⟨a, b ▸ bk, F, h, fun _ q => Or.inl q, b ▸ Out.refl _ _⟩
  ho := fun w bs q F _ bk _ _ e0 _ _ => Calls.nil1 (itemsHold_nil gk _ w (OC.cell bk 20 _ e0))
  gr := fun w bs n v F _ bk _ _ _ e0 e4 h => (itemsGrow_nil gk _ _ w (OC.cell bk 20 _ e0)).mono fun _ _ ⟨a, b⟩ => ⟨a, v, F, by rw [set_self e4]; exact b ▸ bk, h, fun _ q => Or.inl q, b ▸ Out.refl _ _⟩
  hg := fun w bs v F bk _ _ e0 _ _ => Calls.nil1 (itemsHold_nil gk _ w (OC.cell bk 20 _ e0))
def KC.no_kids (B gk base id0 : Nat) : KC B gk base 7 id0 where
  m := 0
  v0 := nilV
  v1 := nilV
  U := fun _ => True
  P := fun _ F _ => ∀ g, ¬ F g
  G := fun _ v F _ => v = nilV ∧ ∀ g, ¬ F g
  ub := fun h _ => h
  pf := fun h _ _ _ _ => h
  gf := fun h _ _ _ _ => h
  pl := fun h g q => (h g q).elim
  gl := fun h g q => (h.2 g q).elim
  start := fun h => ⟨rfl, h⟩
  un := fun w bs bk e0 _ _ => Calls.nil1 (kidsUntouched_nil gk w (OC.cell bk 23 _ e0))
  wr := fun w bs ph q F _ bk _ _ _ e0 h => (kidsWrite_nil gk _ w (OC.cell bk 23 _ e0)).mono fun _ _ ⟨a, b⟩ => ⟨a, b ▸ bk, F, h, fun _ q => Or.inl q, b ▸ Out.refl _ _⟩
  ho := fun w bs q F _ bk _ _ e0 _ _ => Calls.nil1 (kidsHold_nil gk _ w (OC.cell bk 23 _ e0))
  gr := fun w bs n v F _ bk _ _ _ e0 e4 h => (kidsGrow_nil gk _ _ w (OC.cell bk 23 _ e0)).mono fun _ _ ⟨a, b⟩ => ⟨a, v, F, by rw [set_self e4]; exact b ▸ bk, h, fun _ q => Or.inl q, b ▸ Out.refl _ _⟩
  hg := fun w bs v F bk _ _ e0 _ _ => Calls.nil1 (kidsHold_nil gk _ w (OC.cell bk 23 _ e0))
def KC.no_nodes (B gk base id0 : Nat) : KC B gk base 8 id0 where
  m := 0
  v0 := nilV
  v1 := nilV
  U := fun _ => True
  P := fun _ F _ => ∀ g, ¬ F g
  G := fun _ v F _ => v = nilV ∧ ∀ g, ¬ F g
  ub := fun h _ => h
  pf := fun h _ _ _ _ => h
  gf := fun h _ _ _ _ => h
  pl := fun h g q => (h g q).elim
  gl := fun h g q => (h.2 g q).elim
  start := fun h => ⟨rfl, h⟩
  un := fun w bs bk e0 _ _ => Calls.nil1 (nodesUntouched_nil gk w (OC.cell bk 26 _ e0))
  wr := fun w bs ph q F _ bk _ _ _ e0 h => (nodesWrite_nil gk _ w (OC.cell bk 26 _ e0)).mono fun _ _ ⟨a, b⟩ => ⟨a, b ▸ bk, F, h, fun _ q => Or.inl q, b ▸ Out.refl _ _⟩
  ho := fun w bs q F _ bk _ _ e0 _ _ => Calls.nil1 (nodesHold_nil gk _ w (OC.cell bk 26 _ e0))
  gr := fun w bs n v F _ bk _ _ _ e0 e4 h => (nodesGrow_nil gk _ _ w (OC.cell bk 26 _ e0)).mono fun _ _ ⟨a, b⟩ => ⟨a, v, F, by rw [set_self e4]; exact b ▸ bk, h, fun _ q => Or.inl q, b ▸ Out.refl _ _⟩
  hg := fun w bs v F bk _ _ e0 _ _ => Calls.nil1 (nodesHold_nil gk _ w (OC.cell bk 26 _ e0))
def KC.no_writes (B gk base id0 : Nat) : KC B gk base 9 id0 where
  m := 0
  v0 := nilV
  v1 := nilV
  U := fun _ => True
  P := fun _ F _ => ∀ g, ¬ F g
  G := fun _ v F _ => v = nilV ∧ ∀ g, ¬ F g
  ub := fun h _ => h
  pf := fun h _ _ _ _ => h
  gf := fun h _ _ _ _ => h
  pl := fun h g q => (h g q).elim
  gl := fun h g q => (h.2 g q).elim
  start := fun h => ⟨rfl, h⟩
  un := fun w bs bk e0 _ _ => Calls.nil1 (writesUntouched_nil gk w (OC.cell bk 29 _ e0))
  wr := fun w bs ph q F _ bk _ _ _ e0 h => (writesWrite_nil gk _ w (OC.cell bk 29 _ e0)).mono fun _ _ ⟨a, b⟩ => ⟨a, b ▸ bk, F, h, fun _ q => Or.inl q, b ▸ Out.refl _ _⟩
  ho := fun w bs q F _ bk _ _ e0 _ _ => Calls.nil1 (writesHold_nil gk _ w (OC.cell bk 29 _ e0))
  gr := fun w bs n v F _ bk _ _ _ e0 e4 h => (writesGrow_nil gk _ _ w (OC.cell bk 29 _ e0)).mono fun _ _ ⟨a, b⟩ => ⟨a, v, F, by rw [set_self e4]; exact b ▸ bk, h, fun _ q => Or.inl q, b ▸ Out.refl _ _⟩
  hg := fun w bs v F bk _ _ e0 _ _ => Calls.nil1 (writesHold_nil gk _ w (OC.cell bk 29 _ e0))
def KC.no_changes (B gk base id0 : Nat) : KC B gk base 10 id0 where
  m := 0
  v0 := nilV
  v1 := nilV
  U := fun _ => True
  P := fun _ F _ => ∀ g, ¬ F g
  G := fun _ v F _ => v = nilV ∧ ∀ g, ¬ F g
  ub := fun h _ => h
  pf := fun h _ _ _ _ => h
  gf := fun h _ _ _ _ => h
  pl := fun h g q => (h g q).elim
  gl := fun h g q => (h.2 g q).elim
  start := fun h => ⟨rfl, h⟩
  un := fun w bs bk e0 _ _ => Calls.nil1 (changesUntouched_nil gk w (OC.cell bk 32 _ e0))
  wr := fun w bs ph q F _ bk _ _ _ e0 h => (changesWrite_nil gk _ w (OC.cell bk 32 _ e0)).mono fun _ _ ⟨a, b⟩ => ⟨a, b ▸ bk, F, h, fun _ q => Or.inl q, b ▸ Out.refl _ _⟩
  ho := fun w bs q F _ bk _ _ e0 _ _ => Calls.nil1 (changesHold_nil gk _ w (OC.cell bk 32 _ e0))
  gr := fun w bs n v F _ bk _ _ _ e0 e4 h => (changesGrow_nil gk _ _ w (OC.cell bk 32 _ e0)).mono fun _ _ ⟨a, b⟩ => ⟨a, v, F, by rw [set_self e4]; exact b ▸ bk, h, fun _ q => Or.inl q, b ▸ Out.refl _ _⟩
  hg := fun w bs v F bk _ _ e0 _ _ => Calls.nil1 (changesHold_nil gk _ w (OC.cell bk 32 _ e0))
def KC.no_fates (B gk base id0 : Nat) : KC B gk base 11 id0 where
  m := 0
  v0 := nilV
  v1 := nilV
  U := fun _ => True
  P := fun _ F _ => ∀ g, ¬ F g
  G := fun _ v F _ => v = nilV ∧ ∀ g, ¬ F g
  ub := fun h _ => h
  pf := fun h _ _ _ _ => h
  gf := fun h _ _ _ _ => h
  pl := fun h g q => (h g q).elim
  gl := fun h g q => (h.2 g q).elim
  start := fun h => ⟨rfl, h⟩
  un := fun w bs bk e0 _ _ => Calls.nil1 (fatesUntouched_nil gk w (OC.cell bk 35 _ e0))
  wr := fun w bs ph q F _ bk _ _ _ e0 h => (fatesWrite_nil gk _ w (OC.cell bk 35 _ e0)).mono fun _ _ ⟨a, b⟩ => ⟨a, b ▸ bk, F, h, fun _ q => Or.inl q, b ▸ Out.refl _ _⟩
  ho := fun w bs q F _ bk _ _ e0 _ _ => Calls.nil1 (fatesHold_nil gk _ w (OC.cell bk 35 _ e0))
  gr := fun w bs n v F _ bk _ _ _ e0 e4 h => (fatesGrow_nil gk _ _ w (OC.cell bk 35 _ e0)).mono fun _ _ ⟨a, b⟩ => ⟨a, v, F, by rw [set_self e4]; exact b ▸ bk, h, fun _ q => Or.inl q, b ▸ Out.refl _ _⟩
  hg := fun w bs v F bk _ _ e0 _ _ => Calls.nil1 (fatesHold_nil gk _ w (OC.cell bk 35 _ e0))
def KC.no_ops (B gk base id0 : Nat) : KC B gk base 12 id0 where
  m := 0
  v0 := nilV
  v1 := nilV
  U := fun _ => True
  P := fun _ F _ => ∀ g, ¬ F g
  G := fun _ v F _ => v = nilV ∧ ∀ g, ¬ F g
  ub := fun h _ => h
  pf := fun h _ _ _ _ => h
  gf := fun h _ _ _ _ => h
  pl := fun h g q => (h g q).elim
  gl := fun h g q => (h.2 g q).elim
  start := fun h => ⟨rfl, h⟩
  un := fun w bs bk e0 _ _ => Calls.nil1 (opsUntouched_nil gk w (OC.cell bk 38 _ e0))
  wr := fun w bs ph q F _ bk _ _ _ e0 h => (opsWrite_nil gk _ w (OC.cell bk 38 _ e0)).mono fun _ _ ⟨a, b⟩ => ⟨a, b ▸ bk, F, h, fun _ q => Or.inl q, b ▸ Out.refl _ _⟩
  ho := fun w bs q F _ bk _ _ e0 _ _ => Calls.nil1 (opsHold_nil gk _ w (OC.cell bk 38 _ e0))
  gr := fun w bs n v F _ bk _ _ _ e0 e4 h => (opsGrow_nil gk _ _ w (OC.cell bk 38 _ e0)).mono fun _ _ ⟨a, b⟩ => ⟨a, v, F, by rw [set_self e4]; exact b ▸ bk, h, fun _ q => Or.inl q, b ▸ Out.refl _ _⟩
  hg := fun w bs v F bk _ _ e0 _ _ => Calls.nil1 (opsHold_nil gk _ w (OC.cell bk 38 _ e0))
theorem LS.lo {w : World} {base e sz rt n c : Nat} {A : Option Addr} {ps : List Slot} {css : List (List Value)} (h : LS w base e sz rt A n c ps css) {g : Nat} (q : Blk A ps g) : base ≤ g := by
  rcases q with q | ⟨a, ea, rfl⟩
  · exact InPs.base h q
  · exact (h.row.lt a ea).2
theorem GSt.done {w : World} {base B2 e sz rt m cb : Nat} {Ab : Option Addr} {ps : List Slot} {css : List (List Value)} {M : List (List Value) → Prop} {K t mg cg : Nat} {Ag : Option Addr} {F : Nat → Prop} (h : GSt w base B2 e sz rt m cb Ab ps css M K t mg cg Ag F) (ht : 0 < t) : ∃ qs zss, mg = m ∧ RS w sz Ab m cb ps css ∧ RS w sz Ag m cg qs zss ∧ M zss ∧ (∀ zs ∈ zss, zs.length ≤ (K + t) * sz) := by
  rcases h.now with ⟨z, _⟩ | ⟨_, e1, qs, zss, rg, gr, hm, hl, _, _⟩
  · omega
  · exact ⟨qs, zss, e1, gr.old (GC.read h.ra), gr.now (GC.read rg), hm, hl⟩
/-- lists of a kind whose marks are told by their values. -/
def KC.lists {B gk i id0 : Nat} (base e sz rt m K : Nat) (r : Row) (sv1 : Value) (M : Nat → List (List Value) → Prop) (U : World → Prop) (ub : ∀ {w w' : World}, U w → Below w.heap.size w w' → U w')
    (un : ∀ (w : World) (bs : List Value), Bk w gk bs → bs[2 + 3 * i]? = some (r.v m) → bs[3 + 3 * i]? = some sv1 → U w → Calls Tryz.prog (fUs i) #[.pointer (some ⟨gk, 0, none⟩)] w fun e w' => e = .returned (.bool true) ∧ Below w.heap.size w w')
    (hw : ∀ (w : World) (bs : List Value) (css : List (List Value)) (q : Nat), q ≤ 1 → Bk w gk bs → bs[1]? = some (.int .i64 (q : Int)) → bs[2 + 3 * i]? = some (r.v m) → LS w base e sz rt r.A m r.c r.ps css → (∀ cs ∈ css, cs.length ≤ K * sz) → Calls Tryz.prog (fWs i) #[.pointer (some ⟨gk, 0, none⟩), .int .i64 (id0 : Int)] w fun en w' => ∃ css', en = .returned (.int .i64 ((id0 + m : Nat) : Int)) ∧ LS w' base e sz rt r.A m r.c r.ps css' ∧ M q css' ∧ Bk w' gk bs ∧ Out (InPs r.ps) w w')
    (hh : ∀ (w : World) (bs : List Value) (css zss : List (List Value)) (Ag : Option Addr) (mg cg : Nat) (qs : List Slot) (q : Nat), q ≤ 1 → Bk w gk bs → bs[1]? = some (.int .i64 (q : Int)) → bs[2 + 3 * i]? = some (r.v m) → bs[4 + 3 * i]? = some (.slice Ag mg cg) → RS w sz r.A m r.c r.ps css → M q css → (∀ cs ∈ css, cs.length ≤ K * sz) → RS w sz Ag mg cg qs zss → (mg = 0 ∨ mg = m) → M q zss → (∀ cs ∈ zss, cs.length ≤ (K + 70) * sz) → Calls Tryz.prog (fHs i) #[.pointer (some ⟨gk, 0, none⟩), .int .i64 (id0 : Int)] w fun en w' => en = .returned (.tuple #[.int .i64 ((id0 + m : Nat) : Int), .bool true]) ∧ Below w.heap.size w w')
    (hg : ∀ (w : World) (bs : List Value) (css : List (List Value)) (B2 n mg cg : Nat) (Ag : Option Addr) (F : Nat → Prop), n < 70 → Bk w gk bs → bs[1]? = some (.int .i64 1) → bs[2 + 3 * i]? = some (r.v m) → bs[4 + 3 * i]? = some (.slice Ag mg cg) → GSt w base B2 e sz rt m r.c r.A r.ps css (M 1) K n mg cg Ag F → base ≤ w.heap.size → B2 ≤ w.heap.size → Calls Tryz.prog (fGs i) #[.pointer (some ⟨gk, 0, none⟩), .int .i64 (id0 : Int), .int .i64 (n : Int)] w (GrOut gk base B2 e sz rt m r.c id0 K n (4 + 3 * i) r.A r.ps css (M 1) bs F w))
    (hM : ∀ q, M q []) : KC B gk base i id0 where
  m := m
  v0 := r.v m
  v1 := sv1
  U := U
  P := fun ph F w => (∀ g, F g ↔ Blk r.A r.ps g) ∧ base ≤ w.heap.size ∧ ∃ css, LS w base e sz rt r.A m r.c r.ps css ∧ (∀ cs ∈ css, cs.length ≤ K * sz) ∧ (∀ q, ph = q + 1 → M q css)
  G := fun n v F w => ∃ (Ag : Option Addr) (mg cg B2 : Nat) (css : List (List Value)), v = .slice Ag mg cg ∧ base ≤ w.heap.size ∧ B2 ≤ w.heap.size ∧ GSt w base B2 e sz rt m r.c r.A r.ps css (M 1) K n mg cg Ag F ∧ M 1 css ∧ (∀ cs ∈ css, cs.length ≤ K * sz) ∧ (∀ g, F g → base ≤ g)
  ub := ub
  pf := fun {ph F E w w'} h ou d _ _ => by
    obtain ⟨hf, hb, css, ls, l, hm⟩ := h
    exact ⟨hf, Nat.le_trans hb ou.size, css, ls.outDj ou (fun g q => d g ((hf g).2 q)), l, hm⟩
  gf := fun {n v F E w w'} h ou d _ _ => by
    obtain ⟨Ag, mg, cg, B2, css, e1, h1, h2, g, hm, l, hf⟩ := h
    exact ⟨Ag, mg, cg, B2, css, e1, Nat.le_trans h1 ou.size, Nat.le_trans h2 ou.size, g.out ou d, hm, l, hf⟩
  pl := fun {ph F w} h g q => by
    obtain ⟨hf, hb, css, ls, l, hm⟩ := h
    exact ⟨ls.lo ((hf g).1 q), ls.blk ((hf g).1 q)⟩
  gl := fun {n v F w} h g q => by
    obtain ⟨Ag, mg, cg, B2, css, e1, h1, h2, gs, hm, l, hf⟩ := h
    exact ⟨hf g q, gs.fl g q⟩
  start := fun {F w} h => by
    obtain ⟨hf, hb, css, ls, l, hm⟩ := h
    obtain rfl : F = Blk r.A r.ps := funext fun g => propext (hf g)
    exact ⟨none, 0, 0, w.heap.size, css, rfl, hb, Nat.le_refl _, ls.gst (hm 1 rfl) l, hm 1 rfl, l, fun g q => ls.lo q⟩
  un := un
  wr := fun w bs ph q F hq bk _ _ e1 e2 h => by
    obtain ⟨hf, hb, css, ls, l, hm⟩ := h
    refine (hw w bs css q hq bk e1 e2 ls l).mono ?_
    rintro en w' ⟨css', rfl, ls', hm', bk', ou⟩
    have ouF : Out F w w' := ou.mono fun g z => (hf g).2 (Or.inl z)
    exact ⟨rfl, bk', F, ⟨hf, Nat.le_trans hb ou.size, css', ls', ls.lens ls' l, fun q' e => by cases e; exact hm'⟩, fun _ z => Or.inl z, ouF⟩
  ho := fun w bs q F hq bk _ e1 e2 e4 h => by
    obtain ⟨hf, hb, css, ls, l, hm⟩ := h
    exact hh w bs css [] none 0 0 [] q hq bk e1 e2 e4 ls.read (hm q rfl) l (RS.none _ _) (Or.inl rfl) (hM q) (fun cs hc => by cases hc)
  gr := fun w bs n v F hn bk _ _ e1 e2 e4 h => by
    obtain ⟨Ag, mg, cg, B2, css, rfl, h1, h2, gs, hm, l, hf⟩ := h
    refine (hg w bs css B2 n mg cg Ag F hn bk e1 e2 e4 gs h1 h2).mono ?_
    rintro en w' ⟨Ag', cg', F', rfl, gs', bk', hs, ou⟩
    refine ⟨rfl, _, F', bk', ⟨Ag', m, cg', B2, css, rfl, Nat.le_trans h1 ou.size, Nat.le_trans h2 ou.size, gs', hm, l, fun g q => ?_⟩, hs, ou⟩
    rcases hs g q with z | z
    · exact hf g z
    · exact Nat.le_trans h1 z
  hg := fun w bs v F bk _ e1 e2 e4 h => by
    obtain ⟨Ag, mg, cg, B2, css, rfl, h1, h2, gs, hm, l, hf⟩ := h
    obtain ⟨qs, zss, rfl, r1, r2, r3, r4⟩ := gs.done (by decide)
    exact hh w bs css zss Ag mg cg qs 1 (Nat.le_refl _) bk e1 e2 e4 r1 hm l r2 (Or.inr rfl) r3 r4
end Go.Proofs.YtmeakhiiebeneaaGreatDoor
