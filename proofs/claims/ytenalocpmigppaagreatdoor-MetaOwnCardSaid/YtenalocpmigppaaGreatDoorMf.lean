/- coppiceref7.Encode. -/
import Derived.Test.YtenalocpmigppaaGreatDoorMc
import Derived.Test.YtenalocpmigppaaGreatDoorMp
import Derived.Test.YtenalocpmigppaaGreatDoorWq
import Derived.Test.YtenalocpmigppaaGreatDoorLit
namespace Go.Proofs.YtenalocpmigppaaGreatDoor
open Go.RowKit

/-- A head in a block. -/
structure HdAt (w : World) (g : Nat) (v n r h k f e : Int) : Prop where
  c0 : w.cell? ⟨g, 0, none⟩ = some (.int .i64 v)
  c1 : w.cell? ⟨g, 1, none⟩ = some (.int .i64 n)
  c2 : w.cell? ⟨g, 2, none⟩ = some (.int .i64 r)
  c3 : w.cell? ⟨g, 3, none⟩ = some (.int .i64 h)
  c4 : w.cell? ⟨g, 4, none⟩ = some (.int .i64 k)
  c5 : w.cell? ⟨g, 5, none⟩ = some (.int .i64 f)
  c6 : w.cell? ⟨g, 6, none⟩ = some (.int .i64 e)
  lt : g < w.heap.size
theorem HdAt.below {w w' : World} {g : Nat} {v n r h k f e : Int} (q : HdAt w g v n r h k f e) (b : Below w.heap.size w w') : HdAt w' g v n r h k f e :=
  ⟨(b.cell (p := ⟨g, 0, none⟩) q.lt).trans q.c0, (b.cell (p := ⟨g, 1, none⟩) q.lt).trans q.c1, (b.cell (p := ⟨g, 2, none⟩) q.lt).trans q.c2, (b.cell (p := ⟨g, 3, none⟩) q.lt).trans q.c3,
   (b.cell (p := ⟨g, 4, none⟩) q.lt).trans q.c4, (b.cell (p := ⟨g, 5, none⟩) q.lt).trans q.c5, (b.cell (p := ⟨g, 6, none⟩) q.lt).trans q.c6, Nat.lt_of_lt_of_le q.lt b.size⟩
theorem HdAt.new (w : World) (t : TypeId) (v n r h k f e : Int) : HdAt (w.alloc (.cells #[.int .i64 v, .int .i64 n, .int .i64 r, .int .i64 h, .int .i64 k, .int .i64 f, .int .i64 e] t)) w.heap.size v n r h k f e :=
  ⟨by simp, by simp, by simp, by simp, by simp, by simp, by simp, by simp⟩

end Go.Proofs.YtenalocpmigppaaGreatDoor
