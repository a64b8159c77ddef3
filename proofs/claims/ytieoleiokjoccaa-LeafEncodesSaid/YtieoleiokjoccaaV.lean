/- Words for slices: RC (a slice value reads as these cells), OC (a slice at the head of a block of its own holds these cells), and how they are kept; laws for make, append, copy in these words. -/
import Derived.WalkKit
import Derived.WalkLawsBesides
import Derived.WalkSpells
import Derived.Laws.CopyOwn
namespace Go.Proofs.Ytieoleiokjoccaa
open Go.RowKit

/-- A fact that the walk doesn't look into. -/
theorem hideIt {p : Prop} (h : p) : Hid p := h

/-! ### cells of bytes -/
def u8s (xs : List UInt8) : List Value := xs.map fun x => .int .u8 (x.toNat : Int)
theorem u8s_length (xs : List UInt8) : (u8s xs).length = xs.length := by simp [u8s]
theorem u8s_append (xs ys : List UInt8) : u8s (xs ++ ys) = u8s xs ++ u8s ys := by simp [u8s]
theorem u8s_get (xs : List UInt8) (j : Nat) (h : j < xs.length) : (u8s xs)[j]? = some (.int .u8 ((xs[j]).toNat : Int)) := by simp [u8s, h]
theorem u8s_take (xs : List UInt8) (n : Nat) : (u8s xs).take n = u8s (xs.take n) := by simp [u8s]
theorem u8s_drop (xs : List UInt8) (n : Nat) : (u8s xs).drop n = u8s (xs.drop n) := by simp [u8s]
theorem u8s_set (xs : List UInt8) (j : Nat) (b : UInt8) : (u8s xs).set j (.int .u8 (b.toNat : Int)) = u8s (xs.set j b) := by simp [u8s]
theorem u8s_one (xs : List UInt8) : ∀ u ∈ u8s xs, u.oneCell' = true := by
  intro u hu
  obtain ⟨_, _, rfl⟩ := List.mem_map.1 hu
  rfl
theorem u8s_inj {xs ys : List UInt8} (h : u8s xs = u8s ys) : xs = ys := by
  refine (List.map_inj_right ?_).1 h
  intro x y hxy
  injection hxy with _ h1
  exact UInt8.toNat_inj.1 (by omega)

/-- n zeros (closed to simp). -/
def zeros (n : Nat) : List UInt8 := List.replicate n 0
theorem zeros_length (n : Nat) : (zeros n).length = n := by simp [zeros]

/-! ### the same block -/
def Sm (w w' : World) (g : Nat) : Prop := w'.heap[g]? = w.heap[g]?
theorem Sm.refl (w : World) (g : Nat) : Sm w w g := rfl
theorem Sm.trans {a b c : World} {g : Nat} (h : Sm a b g) (k : Sm b c g) : Sm a c g := (show _ = _ from k).trans h
theorem Sm.of_below {B : Nat} {w w' : World} {g : Nat} (h : Below B w w') (hg : g < B) : Sm w w' g := h.block g hg
theorem Sm.of_grown {w w' : World} {row : Option Nat} {g : Nat} (h : w.grownBy w' row) (hg : g < w.heap.size) (hne : some g ≠ row) : Sm w w' g := h.block g hg hne
theorem Sm.alloc (w : World) (o : Obj) {g : Nat} (hg : g < w.heap.size) : Sm w (w.alloc o) g := Below.heap_alloc w o g hg
theorem Sm.setCell (w : World) (a : Addr) (u : Value) {g : Nat} (hg : g ≠ a.block) : Sm w (w.setCell a u) g := Below.heap_setCell w a u g hg
theorem Sm.drew (w : World) (g : Nat) : Sm w w.drew g := rfl
theorem below_of_grown {B : Nat} {w w' : World} {row : Option Nat} (hg : w.grownBy w' row) (hB : B ≤ w.heap.size) (hr : ∀ k, row = some k → B ≤ k) : Below B w w' := (Below.refl B w).grown hg hB hr

/-! ### RC: it reads as these cells -/
structure RC (w : World) (sz : Nat) (A : Option Addr) (n c : Nat) (cs : List Value) : Prop where
  len : cs.length = n * sz
  le : n ≤ c
  mx : c ≤ maxLen
  non : A = none → c = 0
  cell : ∀ ad, A = some ad → ∀ j u, cs[j]? = some u → w.cell? (ad.add j) = some u

theorem RC.same {w w' : World} {sz : Nat} {A : Option Addr} {n c : Nat} {cs : List Value} (h : RC w sz A n c cs) (hs : ∀ ad, A = some ad → cs ≠ [] → Sm w w' ad.block) : RC w' sz A n c cs :=
  ⟨h.len, h.le, h.mx, h.non, fun ad e j u hu => by
    have hne : cs ≠ [] := by rintro rfl; simp at hu
    have hb : (ad.add j).block = ad.block := by unfold Addr.add; split <;> rfl
    rw [World.cell?_of_block (w := w) (by rw [hb]; exact hs ad e hne)]
    exact h.cell ad e j u hu⟩
theorem RC.block_lt {w : World} {sz : Nat} {A : Option Addr} {n c : Nat} {cs : List Value} (h : RC w sz A n c cs) {ad : Addr} (e : A = some ad) (hne : cs ≠ []) : ad.block < w.heap.size := by
  cases cs with
  | nil => exact absurd rfl hne
  | cons x cs =>
    have := h.cell ad e 0 x rfl
    have hb : (ad.add 0).block = ad.block := by unfold Addr.add; split <;> rfl
    rw [← hb]
    exact World.block_lt_of_cell? w _ this
theorem RC.below {w w' : World} {sz : Nat} {A : Option Addr} {n c : Nat} {cs : List Value} (h : RC w sz A n c cs) (hb : Below w.heap.size w w') : RC w' sz A n c cs :=
  h.same fun _ e hne => Sm.of_below hb (h.block_lt e hne)
theorem RC.drop0 {w : World} {sz : Nat} {A : Option Addr} {n c : Nat} {cs : List Value} (h : RC w sz A n c cs) (hn : 0 < n) : ∃ ad, A = some ad ∧ ∀ j u, cs[j]? = some u → w.cell? (ad.add j) = some u := by
  cases A with
  | none => have := h.non rfl; have := h.le; omega
  | some ad => exact ⟨ad, rfl, h.cell ad rfl⟩
/-- The cell at place j. -/
theorem RC.at_ {w : World} {A : Option Addr} {n c : Nat} {cs : List Value} (h : RC w 1 A n c cs) (j : Nat) (hj : j < n) : ∃ ad u, A = some ad ∧ cs[j]? = some u ∧ w.cell? (ad.add j) = some u := by
  obtain ⟨ad, e, hc⟩ := h.drop0 (by omega)
  have : j < cs.length := by rw [h.len]; omega
  exact ⟨ad, cs[j], e, List.getElem?_eq_getElem this, hc j _ (List.getElem?_eq_getElem this)⟩
/-- A cut s[l:h] (or s[l:h:m]), the address as the walk writes it. -/
theorem RC.cut {w : World} {sz : Nat} {A A' : Option Addr} {n c : Nat} {cs : List Value} (h : RC w sz A n c cs) (l hi m : Nat) (h1 : l ≤ hi) (h2 : hi ≤ n) (h3 : hi ≤ m) (h4 : m ≤ c)
    (hA : ¬ m = l → A' = A.map (·.add (l * sz))) (hA2 : A' = none → m = l ∨ A = none) : RC w sz A' (hi - l) (m - l) ((cs.drop (l * sz)).take ((hi - l) * sz)) where
  len := by
    rw [List.length_take, List.length_drop, h.len]
    have : (hi - l) * sz + l * sz ≤ n * sz := by rw [← Nat.add_mul]; exact Nat.mul_le_mul_right _ (by omega)
    omega
  le := by omega
  mx := by have := h.mx; omega
  non := by
    intro e
    rcases hA2 e with h5 | h5
    · omega
    · have := h.non h5; omega
  cell := by
    intro ad e j u hu
    by_cases hm : m = l
    · have : (hi - l) * sz = 0 := by rw [show hi - l = 0 from by omega]; simp
      rw [this] at hu; simp at hu
    · have := hA hm
      cases A with
      | none => rw [this] at e; cases e
      | some ad0 =>
        rw [this] at e
        simp only [Option.map_some, Option.some.injEq] at e
        subst e
        rw [Addr.add_add]
        refine h.cell ad0 rfl _ u ?_
        rw [List.getElem?_take] at hu
        split at hu
        · rw [List.getElem?_drop] at hu; exact hu
        · cases hu

/-- A slice of bytes that reads as xs. -/
def RB (w : World) (A : Option Addr) (n c : Nat) (xs : List UInt8) : Prop := RC w 1 A n c (u8s xs)
theorem RB.len {w : World} {A : Option Addr} {n c : Nat} {xs : List UInt8} (h : RB w A n c xs) : xs.length = n := by have := RC.len h; rw [u8s_length] at this; omega
theorem RB.below {w w' : World} {A : Option Addr} {n c : Nat} {xs : List UInt8} (h : RB w A n c xs) (hb : Below w.heap.size w w') : RB w' A n c xs := RC.below h hb
theorem RB.same {w w' : World} {A : Option Addr} {n c : Nat} {xs : List UInt8} (h : RB w A n c xs) (hs : ∀ ad, A = some ad → 0 < n → Sm w w' ad.block) : RB w' A n c xs :=
  RC.same h fun ad e hne => hs ad e (by rw [← h.len]; cases xs <;> simp_all [u8s])
theorem RB.at_ {w : World} {A : Option Addr} {n c : Nat} {xs : List UInt8} (h : RB w A n c xs) (j : Nat) (hj : j < xs.length) : ∃ ad, A = some ad ∧ w.cell? (ad.add j) = some (.int .u8 ((xs[j]).toNat : Int)) := by
  obtain ⟨ad, u, e, hu, hc⟩ := RC.at_ h j (by rw [← h.len]; exact hj)
  rw [u8s_get xs j hj] at hu
  injection hu with hu
  subst hu
  exact ⟨ad, e, hc⟩
theorem RB.addr {w : World} {A : Option Addr} {n c : Nat} {xs : List UInt8} (h : RB w A n c xs) (hn : 0 < xs.length) : ∃ ad, A = some ad ∧ ∀ j (hj : j < xs.length), w.cell? (ad.add j) = some (.int .u8 ((xs[j]).toNat : Int)) := by
  obtain ⟨ad, e, hc⟩ := RC.drop0 h (by rw [← h.len]; exact hn)
  exact ⟨ad, e, fun j hj => hc j _ (u8s_get xs j hj)⟩
theorem RB.block_lt {w : World} {n c : Nat} {xs : List UInt8} {ad : Addr} (h : RB w (some ad) n c xs) (hn : 0 < n) : ad.block < w.heap.size :=
  RC.block_lt h rfl (by have := h.len; cases xs with | nil => simp at this; omega | cons x xs => simp [u8s])
theorem RB.block_lt' {w : World} {A : Option Addr} {n c : Nat} {xs : List UInt8} {ad : Addr} (h : RB w A n c xs) (e : A = some ad) (hn : 0 < n) : ad.block < w.heap.size := by
  subst e; exact h.block_lt hn
/-- What came in before the call began still reads. -/
theorem RB.since {w w' : World} {A : Option Addr} {n c : Nat} {xs : List UInt8} (h : RB w A n c xs) {B : Nat} (hB : w.heap.size ≤ B) (hb : Below B w w') : RB w' A n c xs := h.below (hb.mono hB)
theorem RB.cut {w : World} {A A' : Option Addr} {n c : Nat} {xs : List UInt8} (h : RB w A n c xs) (l hi m : Nat) (h1 : l ≤ hi) (h2 : hi ≤ n) (h3 : hi ≤ m) (h4 : m ≤ c)
    (hA : ¬ m = l → A' = A.map (·.add l)) (hA2 : A' = none → m = l ∨ A = none) : RB w A' (hi - l) (m - l) ((xs.drop l).take (hi - l)) := by
  have := RC.cut h l hi m h1 h2 h3 h4 (by rw [Nat.mul_one]; exact hA) hA2
  rw [Nat.mul_one, Nat.mul_one, u8s_drop, u8s_take] at this
  exact this
/-- The first h of it. -/
theorem RB.take {w : World} {A : Option Addr} {n c : Nat} {xs : List UInt8} (h : RB w A n c xs) (hi : Nat) (h2 : hi ≤ n) : RB w A hi c (xs.take hi) :=
  ⟨by rw [u8s_length, List.length_take, h.len]; omega, by have := RC.le h; omega, RC.mx h, RC.non h, fun ad e j u hu => by
    refine RC.cell h ad e j u ?_
    rw [← u8s_take, List.getElem?_take] at hu
    split at hu
    · exact hu
    · cases hu⟩
theorem RB.nil (w : World) : RB w none 0 0 [] := ⟨rfl, Nat.le_refl _, by simp [maxLen], fun _ => rfl, fun ad e => by cases e⟩

/-! ### OC: a block of its own -/
def OC (w : World) (e sz g n c : Nat) (cs : List Value) : Prop := w.ownsRow 0 e sz (.slice (some ⟨g, 0, none⟩) n c) n cs
theorem OC.block {w : World} {e sz g n c : Nat} {cs : List Value} (h : OC w e sz g n c cs) : cs.length = n * sz ∧ ∃ cur : Array Value, w.heap[g]? = some (.cells cur e (0, 0)) ∧ n ≤ c ∧ c ≤ maxLen ∧ cur.size = c * sz ∧ cur.toList.take (n * sz) = cs := by
  refine ⟨h.1, ?_⟩
  rcases h.2 with ⟨h', _⟩ | ⟨g', cap, cur, h', _, hg, r⟩
  · simp at h'
  · simp only [Value.slice.injEq, Option.some.injEq, Addr.mk.injEq, and_true, true_and] at h'
    obtain ⟨rfl, rfl⟩ := h'
    exact ⟨cur, hg, r⟩
theorem OC.mk {w : World} {e sz g n c : Nat} {cs : List Value} (hl : cs.length = n * sz) (cur : Array Value) (hg : w.heap[g]? = some (.cells cur e (0, 0))) (hn : n ≤ c) (hc : c ≤ maxLen) (hs : cur.size = c * sz) (ht : cur.toList.take (n * sz) = cs) : OC w e sz g n c cs :=
  ⟨hl, .inr ⟨g, c, cur, rfl, Nat.zero_le _, hg, hn, hc, hs, ht⟩⟩
theorem OC.of_own {w : World} {base e sz g n c : Nat} {cs : List Value} (h : w.ownsRow base e sz (.slice (some ⟨g, 0, none⟩) n c) n cs) : OC w e sz g n c cs := by
  refine ⟨h.1, ?_⟩
  rcases h.2 with ⟨h', _⟩ | ⟨g', cap, cur, h', _, r⟩
  · simp at h'
  · exact .inr ⟨g', cap, cur, h', Nat.zero_le _, r⟩
theorem OC.lt {w : World} {e sz g n c : Nat} {cs : List Value} (h : OC w e sz g n c cs) : g < w.heap.size := by
  obtain ⟨_, cur, hg, _⟩ := h.block
  exact (Array.getElem?_eq_some_iff.1 hg).1
theorem OC.same {w w' : World} {e sz g n c : Nat} {cs : List Value} (h : OC w e sz g n c cs) (hs : Sm w w' g) : OC w' e sz g n c cs := by
  obtain ⟨hl, cur, hg, r1, r2, r3, r4⟩ := h.block
  exact OC.mk hl cur ((show _ = _ from hs).trans hg) r1 r2 r3 r4
theorem OC.below {w w' : World} {e sz g n c : Nat} {cs : List Value} (h : OC w e sz g n c cs) (hb : Below w.heap.size w w') : OC w' e sz g n c cs := h.same (Sm.of_below hb h.lt)
theorem OC.le {w : World} {e sz g n c : Nat} {cs : List Value} (h : OC w e sz g n c cs) : n ≤ c := h.block.2.choose_spec.2.1
theorem OC.mx {w : World} {e sz g n c : Nat} {cs : List Value} (h : OC w e sz g n c cs) : c ≤ maxLen := h.block.2.choose_spec.2.2.1
theorem OC.read {w : World} {e sz g n c : Nat} {cs : List Value} (h : OC w e sz g n c cs) : RC w sz (some ⟨g, 0, none⟩) n c cs :=
  ⟨h.1, h.le, h.mx, (fun hn => by cases hn), (fun ad he j u hu => by
    cases he
    exact World.ownsRow.cells (g := g) h rfl j u hu)⟩
theorem OC.take {w : World} {e sz g n c : Nat} {cs : List Value} (h : OC w e sz g n c cs) (hi : Nat) (h2 : hi ≤ n) : OC w e sz g hi c (cs.take (hi * sz)) := by
  obtain ⟨hl, cur, hg, r1, r2, r3, r4⟩ := h.block
  have hm : hi * sz ≤ n * sz := Nat.mul_le_mul_right _ h2
  refine OC.mk (by rw [List.length_take, hl]; omega) cur hg (by omega) r2 r3 ?_
  rw [← r4, List.take_take]
  congr 1
  omega
theorem OC.cell {w : World} {e g n c : Nat} {cs : List Value} (h : OC w e 1 g n c cs) (j : Nat) (u : Value) (hu : cs[j]? = some u) : w.cell? ⟨g, j, none⟩ = some u := by
  have hj : j < cs.length := (List.getElem?_eq_some_iff.1 hu).1
  rw [World.ownsRow.cellAt h j (by rw [← h.1]; exact hj), hu]
theorem OC.free {w : World} {e sz g n c : Nat} {cs : List Value} (h : OC w e sz g n c cs) (j : Nat) : w.frozen? ⟨g, j, none⟩ = false := World.ownsRow.frozenAt h j
theorem OC.set {w : World} {e sz g n c : Nat} {cs : List Value} (h : OC w e sz g n c cs) (j : Nat) (u : Value) : OC (w.setCell ⟨g, j, none⟩ u) e sz g n c (cs.set j u) := (World.ownsRow.stored h j u).1

def OB (w : World) (g n c : Nat) (xs : List UInt8) : Prop := OC w 5 1 g n c (u8s xs)
theorem OB.len {w : World} {g n c : Nat} {xs : List UInt8} (h : OB w g n c xs) : xs.length = n := by have := h.1; rw [u8s_length] at this; omega
theorem OB.read {w : World} {g n c : Nat} {xs : List UInt8} (h : OB w g n c xs) : RB w (some ⟨g, 0, none⟩) n c xs := OC.read h
theorem OB.lt {w : World} {g n c : Nat} {xs : List UInt8} (h : OB w g n c xs) : g < w.heap.size := OC.lt h
theorem OB.same {w w' : World} {g n c : Nat} {xs : List UInt8} (h : OB w g n c xs) (hs : Sm w w' g) : OB w' g n c xs := OC.same h hs
theorem OB.below {w w' : World} {g n c : Nat} {xs : List UInt8} (h : OB w g n c xs) (hb : Below w.heap.size w w') : OB w' g n c xs := OC.below h hb
theorem OB.take {w : World} {g n c : Nat} {xs : List UInt8} (h : OB w g n c xs) (hi : Nat) (h2 : hi ≤ n) : OB w g hi c (xs.take hi) := by
  have := OC.take h hi h2
  rw [Nat.mul_one, u8s_take] at this
  exact this
theorem OB.cell {w : World} {g n c : Nat} {xs : List UInt8} (h : OB w g n c xs) (j : Nat) (hj : j < xs.length) : w.cell? ⟨g, j, none⟩ = some (.int .u8 ((xs[j]).toNat : Int)) := OC.cell h j _ (u8s_get xs j hj)
theorem OB.free {w : World} {g n c : Nat} {xs : List UInt8} (h : OB w g n c xs) (j : Nat) : w.frozen? ⟨g, j, none⟩ = false := OC.free h j
theorem OB.set {w : World} {g n c : Nat} {xs : List UInt8} (h : OB w g n c xs) (j : Nat) (b : UInt8) : OB (w.setCell ⟨g, j, none⟩ (.int .u8 (b.toNat : Int))) g n c (xs.set j b) := by
  have := OC.set h j (.int .u8 (b.toNat : Int))
  rw [u8s_set] at this
  exact this

/-- Bytes in a block of whatever element type, read from its head. -/
theorem RB.of_block {w : World} {g t : Nat} {fr : Nat × Nat} (xs : List UInt8) (n : Nat) (hg : w.heap[g]? = some (.cells (u8s xs).toArray t fr)) (hn : xs.length = n) (hm : n ≤ maxLen) : RB w (some ⟨g, 0, none⟩) n n xs :=
  ⟨by rw [u8s_length]; omega, Nat.le_refl _, hm, (fun e => by cases e), (fun ad e j u hu => by
    cases e
    rw [Addr.add_lit, Nat.zero_add, cell_of_row w g j _ t fr hg]
    simpa using hu)⟩

/-! ### laws -/
section
variable {P : Program} {w : World} {ops : Array Oper} {rest : List Oper} {o : Oper} {a : Act} {Q : Exit → Act → World → Prop}
/-- append onto a block of its own, whatever room there is: the same block, or the next new one. -/
theorem wpList_app (hgd : o.guard = none) (s x : Operand) (t : TypeId)
    (ho : o.op = .call { callee := .builtin .append, args := #[s, x], argTypes := #[t, t] })
    (e : TypeId) (i : TypeInfo) (z : Value) (sz bytes : Nat) (ht : P.underlying t = some (.slice e)) (hi : P.info? e = some i) (hz : i.zero = some z)
    (hsize : i.size = sz) (hby : i.bytes = bytes) (hzs : z.cells.size = sz) (hsz : 0 < sz)
    (g n c : Nat) (xs : List Value) (hs : a.eval s = .slice (some ⟨g, 0, none⟩) n c) (hown : OC w e sz g n c xs)
    (A : Option Addr) (m k : Nat) (news : List Value) (hx : a.eval x = .slice A m k) (hr : RC w sz A m k news) (h1 : ∀ u ∈ news, u.oneCell' = true)
    (hbytes : (n + m) * bytes ≤ 140737488355328) (h63 : n + m ≤ maxLen)
    (h : ∀ g' c' w', (g' = g ∨ g' = w.heap.size) → (n + m ≤ c → g' = g ∧ c' = c) → OC w' e sz g' (n + m) c' (xs ++ news) → w.grownBy w' (some g) → wpList P ops Q rest (a.put o.dst (.slice (some ⟨g', 0, none⟩) (n + m) c')) w') :
    wpList P ops Q (o :: rest) a w := by
  refine wpList_plain hgd fun K hK => ?_
  have fin : ∀ v' w', (Builtin.append_ #[t, t] o.type #[.slice (some ⟨g, 0, none⟩) n c, .slice A m k]).run P w = .ok v' w' → K (a.put o.dst v') w' → o.wp P a w K Q := by
    intro v' w' hrun hk
    unfold Oper.wp
    simp [execOp, ho, resolve, invoke, builtin, hs, hx, hrun, Result.andThen]
    exact hk
  obtain ⟨hl, cur, hg, r1, r2, r3, r4⟩ := hown.block
  have hxl := hown.1
  by_cases hroom : n + m ≤ c
  · cases A with
    | none =>
      have hk0 := hr.non rfl
      have hm0 : m = 0 := by have := hr.le; omega
      subst hm0
      have hnews : news = [] := List.eq_nil_of_length_eq_zero (by have := hr.len; simpa using this)
      subst hnews
      subst hk0
      have hrun := run_append_owned_none (P := P) w 0 t o.type e i sz ht hi _ n xs hown
      refine fin _ _ hrun (hK _ _ ?_)
      have := h g c w (.inl rfl) (fun _ => ⟨rfl, rfl⟩) (by simpa using hown) (World.grownBy.refl _ _)
      simpa using this
    | some ad =>
      obtain ⟨w', hrun, k1, k2⟩ := run_append_fits (P := P) w 0 t o.type e i sz ht hi hsize g n c xs hown ad m k news hr.len (hr.cell ad rfl) h1 hroom
      exact fin _ _ hrun (hK _ _ (h g c w' (.inl rfl) (fun _ => ⟨rfl, rfl⟩) (OC.of_own k1) k2))
  · cases A with
    | none =>
      have := hr.non rfl
      have := hr.le
      omega
    | some ad =>
      have hm' : n + m ≤ 9223372036854775807 := by simpa [maxLen] using h63
      subst hsize
      subst hby
      have hrun := run_append_grow (P := P) w t o.type e i z ht hi hz ⟨g, 0, none⟩ n c xs hxl (fun j u hu => World.ownsRow.cells hown (g := g) rfl j u hu) ad m k news hr.len (hr.cell ad rfl) (by omega) (by omega) (growslice_fits (by omega) hbytes)
      refine fin _ _ hrun (hK _ _ ?_)
      have hge := grownCap_ge w (n + m) c e
      have hcm : grownCap w (n + m) c e ≤ maxLen := grownCap_le_maxLen w (n + m) c e h63
      have hlen : (xs ++ news).length = (n + m) * i.size := by rw [List.length_append, hxl, hr.len, Nat.add_mul]
      refine h w.heap.size _ _ (.inr rfl) (fun hc => absurd hc hroom) (OC.mk hlen _ (heap_alloc_new w.drew _) hge hcm ?_ ?_) ⟨rfl, rfl, rfl, by simp, fun j hj _ => Below.heap_alloc w.drew _ j hj⟩
      · simp only [Array.size_append, List.size_toArray, size_zeroCells, hzs, hxl, hr.len, ← Nat.add_mul]
        congr 1
        omega
      · simp only [Array.toList_append, List.append_assoc]
        rw [← List.append_assoc, ← hlen]
        exact List.take_left
end
end Go.Proofs.Ytieoleiokjoccaa
