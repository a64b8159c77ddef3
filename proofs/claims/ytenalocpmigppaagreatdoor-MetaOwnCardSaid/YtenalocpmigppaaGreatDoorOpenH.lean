/- Arguments opened: a head (seven ints). -/
import Derived.Test.YtenalocpmigppaaGreatDoorOpen
import Derived.Test.YtenalocpmigppaaGreatDoorMh
import Derived.Lib.SmallJoins
namespace Go.Proofs.YtenalocpmigppaaGreatDoor
open Go.ChangeShapes Go.WideShapes Go.ChangeAt Go.RowKit

theorem cells_head : Tryz.prog.cellsOf 66 = 7 := by kernel_rfl
theorem cells_int : Tryz.prog.cellsOf 3 = 1 := by kernel_rfl
set_option maxRecDepth 100000 in
theorem open_head {H : Type} {enc : TypeId × Value → H} {W : World} {base b0 : Nat} {held : Bool} {r : Reach} {v : Value} {d : DataW H} {ps : List MemPlace} (hv : Value.okWide Tryz.prog W r b0 66 v)
    (h : DataW.Trod enc Tryz.prog W base (fun _ => true) held 66 v d ps) :
    ∃ a b c e f g i : Int, v = .agg #[.int .i64 a, .int .i64 b, .int .i64 c, .int .i64 e, .int .i64 f, .int .i64 g, .int .i64 i] ∧ (I64 a ∧ I64 b ∧ I64 c ∧ I64 e ∧ I64 f ∧ I64 g ∧ I64 i) := by
  obtain ⟨cs, rfl, hsz⟩ := okWide_struct Tryz.underlying66 hv
  obtain ⟨l⟩ := cs
  match l, hsz.trans cells_head with
  | [c0, c1, c2, c3, c4, c5, c6], _ =>
    obtain ⟨fuel, hf⟩ := h
    obtain ⟨xs, n, _, _, _, hlen, hg⟩ := DataW.trod_struct Tryz.underlying66 hf
    match xs, hlen with
    | [y0, y1, y2, y3, y4, y5, y6], _ =>
      have g0 : DataW.trod enc Tryz.prog W base (fun _ => true) held n 3 (([c0, c1, c2, c3, c4, c5, c6].drop 0).take (Tryz.prog.cellsOf 3)) = some y0 := hg 0 _ rfl
      have g1 : DataW.trod enc Tryz.prog W base (fun _ => true) held n 3 (([c0, c1, c2, c3, c4, c5, c6].drop 1).take (Tryz.prog.cellsOf 3)) = some y1 := hg 1 _ rfl
      have g2 : DataW.trod enc Tryz.prog W base (fun _ => true) held n 3 (([c0, c1, c2, c3, c4, c5, c6].drop 2).take (Tryz.prog.cellsOf 3)) = some y2 := hg 2 _ rfl
      have g3 : DataW.trod enc Tryz.prog W base (fun _ => true) held n 3 (([c0, c1, c2, c3, c4, c5, c6].drop 3).take (Tryz.prog.cellsOf 3)) = some y3 := hg 3 _ rfl
      have g4 : DataW.trod enc Tryz.prog W base (fun _ => true) held n 3 (([c0, c1, c2, c3, c4, c5, c6].drop 4).take (Tryz.prog.cellsOf 3)) = some y4 := hg 4 _ rfl
      have g5 : DataW.trod enc Tryz.prog W base (fun _ => true) held n 3 (([c0, c1, c2, c3, c4, c5, c6].drop 5).take (Tryz.prog.cellsOf 3)) = some y5 := hg 5 _ rfl
      have g6 : DataW.trod enc Tryz.prog W base (fun _ => true) held n 3 (([c0, c1, c2, c3, c4, c5, c6].drop 6).take (Tryz.prog.cellsOf 3)) = some y6 := hg 6 _ rfl
      rw [cells_int] at g0 g1 g2 g3 g4 g5 g6
      obtain ⟨a, ha, _, wa⟩ := DataW.trod_int Tryz.underlying3 g0
      obtain ⟨b, hb, _, wb⟩ := DataW.trod_int Tryz.underlying3 g1
      obtain ⟨c, hc, _, wc⟩ := DataW.trod_int Tryz.underlying3 g2
      obtain ⟨e, he, _, we⟩ := DataW.trod_int Tryz.underlying3 g3
      obtain ⟨f, hf', _, wf⟩ := DataW.trod_int Tryz.underlying3 g4
      obtain ⟨g, hg', _, wg⟩ := DataW.trod_int Tryz.underlying3 g5
      obtain ⟨i, hi, _, wi⟩ := DataW.trod_int Tryz.underlying3 g6
      simp at ha hb hc he hf' hg' hi
      subst ha hb hc he hf' hg' hi
      exact ⟨a, b, c, e, f, g, i, rfl, wf_i64 wa, wf_i64 wb, wf_i64 wc, wf_i64 we, wf_i64 wf, wf_i64 wg, wf_i64 wi⟩
end Go.Proofs.YtenalocpmigppaaGreatDoor
