/- A reader: a block with its bytes, its place, its error. NewReader, take. -/
import Derived.Test.YtieoleiokjoccaaWb
import Derived.Deep.QuietTactic
import Derived.BigQuiet
import Derived.BigRegion
import Derived.WalkLawsBesides
namespace Go.Proofs.Ytieoleiokjoccaa
open Go.RowKit

/-- Block g is a reader of bytes B at a place, with an error. -/
structure Rd (w : World) (g : Nat) (B : List UInt8) (at_ : Nat) (e : Int) : Prop where
  row : ∃ t gb n c, OC w t 1 g 3 3 [.slice (some ⟨gb, 0, none⟩) n c, .int .i64 (at_ : Int), .int .i64 e] ∧ OB w gb n c B ∧ gb < g ∧ at_ ≤ n ∧ n ≤ 140737488355328 ∧ t ≠ 5
theorem Rd.lt {w : World} {g : Nat} {B : List UInt8} {at_ : Nat} {e : Int} (h : Rd w g B at_ e) : g < w.heap.size := by
  obtain ⟨t, gb, n, c, h1, _⟩ := h.row; exact h1.lt
theorem Rd.keep {w w' : World} {g : Nat} {B : List UInt8} {at_ : Nat} {e : Int} (h : Rd w g B at_ e) (hs : ∀ k, k < w.heap.size → Sm w w' k) : Rd w' g B at_ e := by
  obtain ⟨t, gb, n, c, h1, h2, h3, h4, h5⟩ := h.row
  exact ⟨t, gb, n, c, h1.same (hs g h1.lt), h2.same (hs gb h2.lt), h3, h4, h5⟩
theorem Rd.below {w w' : World} {g : Nat} {B : List UInt8} {at_ : Nat} {e : Int} (h : Rd w g B at_ e) (hb : Below w.heap.size w w') : Rd w' g B at_ e :=
  h.keep fun _ hk => Sm.of_below hb hk
theorem Rd.drewN {w : World} {g : Nat} {B : List UInt8} {at_ : Nat} {e : Int} (h : Rd w g B at_ e) (m : Nat) : Rd (w.drewN m) g B at_ e := h.keep fun _ _ => rfl
theorem Rd.le {w : World} {g : Nat} {B : List UInt8} {at_ : Nat} {e : Int} (h : Rd w g B at_ e) : at_ ≤ B.length ∧ B.length ≤ 140737488355328 := by
  obtain ⟨t, gb, n, c, h1, h2, h3, h4, h5⟩ := h.row
  rw [h2.len]; exact ⟨h4, h5.1⟩
/-- behind a call that has written this reader's block alone: another reader, other bytes. -/
theorem sm_other {w w' : World} {g k : Nat} (hg : w.grownBy w' (some g)) (hk : k < w.heap.size) (hne : k ≠ g) : Sm w w' k := Sm.of_grown hg hk (by simpa using hne)
theorem grownBy_set (w : World) (g j : Nat) (v : Value) : w.grownBy (w.setCell ⟨g, j, none⟩ v) (some g) :=
  ⟨rfl, rfl, rfl, by simp [World.setCell], fun k _ hk => Below.heap_setCell _ _ _ _ (fun e => hk (by rw [e]))⟩
theorem grownBy_drewN (w : World) (m : Nat) (row : Option Nat) : w.grownBy (w.drewN m) row := ⟨rfl, rfl, rfl, Nat.le_refl _, fun _ _ _ => rfl⟩
theorem Rd.setErr {w : World} {g : Nat} {B : List UInt8} {at_ : Nat} {e : Int} (h : Rd w g B at_ e) (e' : Int) : Rd (w.setCell ⟨g, 2, none⟩ (.int .i64 e')) g B at_ e' := by
  obtain ⟨t, gb, n, c, h1, h2, h3, h4, h5⟩ := h.row
  exact ⟨t, gb, n, c, h1.set 2 _, h2.same (Sm.setCell w _ _ (Nat.ne_of_lt h3)), h3, h4, h5⟩
theorem Rd.setAt {w : World} {g : Nat} {B : List UInt8} {at_ : Nat} {e : Int} (h : Rd w g B at_ e) (a' : Nat) (ha : a' ≤ B.length) : Rd (w.setCell ⟨g, 1, none⟩ (.int .i64 (a' : Int))) g B a' e := by
  obtain ⟨t, gb, n, c, h1, h2, h3, h4, h5⟩ := h.row
  rw [h2.len] at ha
  exact ⟨t, gb, n, c, h1.set 1 _, h2.same (Sm.setCell w _ _ (Nat.ne_of_lt h3)), h3, ha, h5⟩
/-- The cells of a reader, laid out for a walk. -/
structure RdAt (w : World) (g gb n c : Nat) (B : List UInt8) (at_ : Nat) (e : Int) : Prop where
  c0 : w.cell? ⟨g, 0, none⟩ = some (.slice (some ⟨gb, 0, none⟩) n c)
  c1 : w.cell? ⟨g, 1, none⟩ = some (.int .i64 (at_ : Int))
  c2 : w.cell? ⟨g, 2, none⟩ = some (.int .i64 e)
  f1 : w.frozen? ⟨g, 1, none⟩ = false
  f2 : w.frozen? ⟨g, 2, none⟩ = false
  ob : OB w gb n c B
  ne : gb ≠ g
  la : at_ ≤ n
  ln : n ≤ 140737488355328
  lc : n ≤ c
theorem Rd.laid {w : World} {g : Nat} {B : List UInt8} {at_ : Nat} {e : Int} (h : Rd w g B at_ e) : ∃ gb n c, RdAt w g gb n c B at_ e := by
  obtain ⟨t, gb, n, c, h1, h2, h3, h4, h5⟩ := h.row
  exact ⟨gb, n, c, h1.cell 0 _ rfl, h1.cell 1 _ rfl, h1.cell 2 _ rfl, h1.free 1, h1.free 2, h2, Nat.ne_of_lt h3, h4, h5.1, OC.le h2⟩
theorem Rd.new {w : World} {gb n c t : Nat} {B : List UInt8} (ob : OB w gb n c B) (hn : n ≤ 140737488355328) (ht : t ≠ 5) :
    Rd (w.alloc (.cells #[.slice (some ⟨gb, 0, none⟩) n c, .int .i64 0, .int .i64 0] t)) w.heap.size B 0 0 :=
  ⟨t, gb, n, c, OC.mk rfl _ (heap_alloc_new w _) (Nat.le_refl _) (by rw [maxLen_is]; omega) rfl rfl, ob.same (Sm.alloc w _ ob.lt), ob.lt, Nat.zero_le _, hn, ht⟩
/-- Another reader stays where this reader's block alone is written. -/
theorem Rd.other {w w' : World} {g g' : Nat} {B B' : List UInt8} {at_ at' : Nat} {e e' : Int} (q : Rd w g B at_ e) (gx : w.grownBy w' (some g')) (r : Rd w g' B' at' e') (ne : g ≠ g') : Rd w' g B at_ e := by
  obtain ⟨t, gb, n, c, h1, h2, h3, h4, h5⟩ := q.row
  obtain ⟨t', gb', n', c', k1, k2, k3, k4, k5⟩ := r.row
  have hne : gb ≠ g' := by
    rintro rfl
    obtain ⟨_, cur, q1, _⟩ := OC.block h2
    obtain ⟨_, cur', q2, _⟩ := OC.block k1
    rw [q1] at q2
    injection q2 with q2
    injection q2 with _ q2
    exact k5.2 q2.symm
  exact ⟨t, gb, n, c, h1.same (Sm.of_grown gx h1.lt (by simpa using ne)), h2.same (Sm.of_grown gx h2.lt (by simpa using hne)), h3, h4, h5⟩
/-- A reader stays where a younger block is written. -/
theorem Rd.above {w w' : World} {g k : Nat} {B : List UInt8} {at_ : Nat} {e : Int} (q : Rd w g B at_ e) (gx : w.grownBy w' (some k)) (hk : g < k) : Rd w' g B at_ e := by
  obtain ⟨t, gb, n, c, h1, h2, h3, h4, h5⟩ := q.row
  have n1 : g ≠ k := Nat.ne_of_lt hk
  have n2 : gb ≠ k := Nat.ne_of_lt (Nat.lt_trans h3 hk)
  exact ⟨t, gb, n, c, h1.same (Sm.of_grown gx h1.lt (by simpa using n1)), h2.same (Sm.of_grown gx h2.lt (by simpa using n2)), h3, h4, h5⟩
/-- Bytes in a block of their own stay where a reader's block alone is written. -/
theorem OB.beside {w w' : World} {g g' n c : Nat} {xs : List UInt8} {B' : List UInt8} {at' : Nat} {e' : Int} (q : OB w g n c xs) (gx : w.grownBy w' (some g')) (r : Rd w g' B' at' e') : OB w' g n c xs := by
  obtain ⟨t', gb', n', c', k1, k2, k3, k4, k5⟩ := r.row
  have hne : g ≠ g' := by
    rintro rfl
    obtain ⟨_, cur, q1, _⟩ := OC.block q
    obtain ⟨_, cur', q2, _⟩ := OC.block k1
    rw [q1] at q2
    injection q2 with q2
    injection q2 with _ q2
    exact k5.2 q2.symm
  exact q.same (Sm.of_grown gx q.lt (by simpa using hne))
end Go.Proofs.Ytieoleiokjoccaa
