/- The law MetaPlaces holds for every input: the call returns true, and each argument reads behind the call as it read before; under the row's own list of package-level variables, which the card ties to the program's text. -/
import Derived.Test.YtgajlippppebpaaDoorMs
import Derived.Test.YtgajlippppebpaaDoorOpenH
import Derived.Test.YtgajlippppebpaaDoorOpen
import Derived.Test.YtgajlippppebpaaDoorCards
import Derived.Test.YtgajlippppebpaaDoorTie
import Derived.Lib.LaidTab
import Derived.LaidSub
namespace Go.Proofs.YtgajlippppebpaaDoor.metaPlacesRow
open Go.ChangeShapes Go.WideShapes Go.ChangeAt Go.RowKit
theorem cellsA : Tryd.prog.cellsOf 45 = 4 := by kernel_rfl
theorem cellsE : Tryd.prog.cellsOf 5 = 1 := by kernel_rfl
theorem gB : Tryd.prog.globalNamed "coppice/meta.begin" = some 0 := by kernel_rfl
theorem gTB : (Tryd.prog.globals[0]?).map (·.type) = some 45 := by kernel_rfl
theorem tabB {W : World} (h : laidMetH Tryd.prog Rows.metaPlacesRow.laid W) : Lib.TabIs Tryd.prog W "coppice/meta.begin" .u8 [5, 99, 111, 112] :=
  Lib.tabIs_of_head (rest := []) gB gTB Tryd.underlying45 Tryd.underlying5 cellsE cellsA (show laidMetH Tryd.prog [("coppice/meta.begin", Lib.tabData .u8 [5, 99, 111, 112])] W from h.filter fun p => p.1 == "coppice/meta.begin")
theorem gE : Tryd.prog.globalNamed "coppice/meta.end" = some 1 := by kernel_rfl
theorem gTE : (Tryd.prog.globals[1]?).map (·.type) = some 45 := by kernel_rfl
theorem tabE {W : World} (h : laidMetH Tryd.prog Rows.metaPlacesRow.laid W) : Lib.TabIs Tryd.prog W "coppice/meta.end" .u8 [101, 110, 100, 46] :=
  Lib.tabIs_of_head (rest := []) gE gTE Tryd.underlying45 Tryd.underlying5 cellsE cellsA (show laidMetH Tryd.prog [("coppice/meta.end", Lib.tabData .u8 [101, 110, 100, 46])] W from h.filter fun p => p.1 == "coppice/meta.end")
theorem marks_of {W : World} (h : laidMetH Tryd.prog Rows.metaPlacesRow.laid W) : Marks W :=
  ⟨(tabB h).cell gB 0 (by decide), (tabB h).cell gB 1 (by decide), (tabB h).cell gB 2 (by decide), (tabB h).cell gB 3 (by decide), (tabE h).cell gE 0 (by decide), (tabE h).cell gE 1 (by decide), (tabE h).cell gE 2 (by decide), (tabE h).cell gE 3 (by decide)⟩
set_option maxRecDepth 100000 in
theorem contract (H : Type) (enc : TypeId × Value → H) (W : World) (args : Array Value) (ds gs : List (DataW H)) (before : List MemPlace) (base : Nat)
    (hval0 : ∀ (j : Nat) t v, Tryd.f9.params[j]? = some t → args[j]? = some v → Value.okWide Tryd.prog W .any base t v)
    (hW : DataW.Whole enc Tryd.prog Tryd.f9.params.toList Rows.metaPlacesSpec.vars false W args.toList ds gs before)
    (hsz0 : (DataW.weightsEach Tryd.prog (Tryd.f9.params.toList ++ Rows.metaPlacesSpec.plain.varTypes Tryd.prog) (ds ++ gs)).all (· ≤ reachBytes) = true) (hL : laidMetH Tryd.prog Rows.metaPlacesRow.laid W) :
    Calls Tryd.prog 9 args W fun e W' => ∃ v, e = .returned v ∧ Rows.metaPlacesSpec.post enc Tryd.prog Tryd.f9 false true false false W args v W' := by
  have hval : ∀ (j : Nat) t v, Tryd.f9.params[j]? = some t → args[j]? = some v → Value.okWide Tryd.prog W .any base t v := hval0
  have hsz := hsz0
  have hW' := hW
  obtain ⟨p, q, hA0, hV, rfl, hfz, hnd⟩ := hW
  have hA : DataW.TrodAll enc Tryd.prog W 0 (fun _ => true) true Tryd.f9.params.toList args.toList ds p := hA0
  rw [Tryd.params9] at hA hval hsz
  obtain ⟨v0, vs0, d0, ds0, p0, q0, hargs, rfl, rfl, h0, r0⟩ := trodAll_cons hA
  obtain ⟨rfl, rfl, rfl⟩ := trodAll_nil r0
  obtain rfl : args = #[v0] := by cases args; simp_all
  obtain ⟨rfl, rfl⟩ := trodVars_none hV
  have k0 := h0
  have lt0 : ∀ x ∈ p0, x.block < W.heap.size := by obtain ⟨m, hm⟩ := k0; exact DataW.trod_lt m _ _ _ hm
  obtain ⟨z0v, z0n, z0r, z0h, z0k, z0f, z0e, rfl, e0⟩ := open_head (hval 0 23 v0 rfl rfl) h0
  clear hA0 hval0 hsz0 hsz
  refine (MetaPlaces_walk z0v z0n z0r z0h z0k z0f z0e W e0 (marks_of hL)).mono fun e W' ⟨he, bel⟩ => ?_
  subst he
  exact ⟨_, rfl, _, _, _, [], _, [], hW', trodAll_mk1 (shut_bool Tryd.underlying4 _), (trodAll_cons_mk (Below.trod laid_out (by kernel_rfl) (of_decide_eq_true (by kernel_rfl)) k0 bel lt0) trodAll_mk0), rfl, bel.frame _, fun h => by cases h⟩
noncomputable def laidWorld (os : Os) : World :=
  { World.holding Tryd.prog os ⟨#[], #[], []⟩ with heap := (((World.holding Tryd.prog os ⟨#[], #[], []⟩).heap.modify 0 fun | .cells _ t frozen => .cells #[.int .u8 5, .int .u8 99, .int .u8 111, .int .u8 112] t frozen | o => o).modify 1 fun | .cells _ t frozen => .cells #[.int .u8 101, .int .u8 110, .int .u8 100, .int .u8 46] t frozen | o => o) }
theorem laid_met (os : Os) : laidMet Tryd.prog Rows.metaPlacesRow.laid ((laidWorld os).forCall (fun _ _ => 0) ⟨#[], #[.agg #[.int .i64 0, .int .i64 0, .int .i64 0, .int .i64 0, .int .i64 0, .int .i64 0, .int .i64 0]], []⟩).memory :=
  laidMet_of_run' 8 (by kernel_rfl) (by kernel_rfl)
theorem reads (os : Os) {H : Type} (enc : TypeId × Value → H) : ∃ places, DataW.whole enc Tryd.prog ((laidWorld os).forCall (fun _ _ => 0) ⟨#[], #[.agg #[.int .i64 0, .int .i64 0, .int .i64 0, .int .i64 0, .int .i64 0, .int .i64 0, .int .i64 0]], []⟩).memory Tryd.f9.params.toList Rows.metaPlacesSpec.vars false (#[.agg #[.int .i64 0, .int .i64 0, .int .i64 0, .int .i64 0, .int .i64 0, .int .i64 0, .int .i64 0]] : Array Value).toList 8 = some ([.agg [.lit (.int .i64 0), .lit (.int .i64 0), .lit (.int .i64 0), .lit (.int .i64 0), .lit (.int .i64 0), .lit (.int .i64 0), .lit (.int .i64 0)]], [], places) :=
  ⟨[], by kernel_rfl⟩
set_option maxRecDepth 100000 in
theorem lifted (os : Os) (started : os.Started) (H : Type) (enc : TypeId × Value → H) (F : Stop.Interp) :
    ReturnsInHanded {} Tryd.checked os 9 .any ((OpenSpec.ofChange Rows.metaPlacesSpec).preRow enc Tryd.prog Tryd.f9 Rows.metaPlacesRow.domain false Rows.metaPlacesRow.laid) (((OpenSpec.ofChange Rows.metaPlacesSpec).at F).post enc Tryd.prog Tryd.f9 false true false false) := by
  obtain ⟨places, hx⟩ := reads os enc
  refine returnsInHanded_of_row (C := Tryd.checked) (s := OpenSpec.ofChange Rows.metaPlacesSpec) own_knob started (by kernel_rfl) Tryd.func9
    (witness_row_at (enc := enc) (C := Tryd.checked) false (laidWorld os) #[.agg #[.int .i64 0, .int .i64 0, .int .i64 0, .int .i64 0, .int .i64 0, .int .i64 0, .int .i64 0]] rfl (by kernel_rfl) (by kernel_rfl) (by kernel_rfl)
      (OpenSpec.preRow_of_cond 8 hx (by kernel_rfl) (fun k hk => by cases hk) (by kernel_rfl) (laid_met os))) ?_
  intro W base args ds gs before hval hW _ _ hsz hL _ _
  exact contract H enc W args ds gs before base hval hW hsz hL
theorem said : Rows.MetaPlacesSaid :=
  OpenClaim.holds_of_cond 9 Tryd.f9 rfl rfl rfl rfl rfl rfl rfl ⟨rfl, rfl, rfl, rfl, rfl⟩ rfl rfl rfl rfl rfl (by kernel_rfl) Tryd.func9 (by kernel_rfl)
    (of_decide_eq_true (by kernel_rfl)) (by unfold Func.isWrapper; first | (rw [if_pos (by decide +kernel)]; kernel_rfl) | (rw [if_neg (by decide +kernel)]; exact ⟨rfl, rfl⟩))
    (fun os started H enc _ F => by rw [OpenClaim.pre_eq_preRow]; exact lifted os started H enc F)
theorem plain (f : FuncId) (fn : Func) (hf : Tryd.pinned.checked.prog.funcNamed "coppice/coppicelaw7.MetaPlaces" = some f) (hfn : Tryd.pinned.checked.prog.funcs[f]? = some fn) :
    false = Tryd.pinned.checked.prog.looks [] ∧ ∀ (j : Nat) t, fn.params[j]? = some t → Tryd.pinned.checked.prog.wantsStandIn t = false := by
  obtain rfl : f = 9 := Option.some.inj ((show Tryd.prog.funcNamed "coppice/coppicelaw7.MetaPlaces" = some 9 by kernel_rfl).symm.trans hf) |>.symm
  obtain rfl : fn = Tryd.f9 := (Option.some.inj (Tryd.func9.symm.trans hfn)).symm
  refine ⟨by kernel_rfl, fun j t ht => ?_⟩
  rw [Tryd.params9] at ht
  have hm := Array.mem_of_getElem? ht
  have hall : ∀ t ∈ (#[23] : Array TypeId), Tryd.prog.wantsStandIn t = false := by
    intro t ht
    simp only [List.mem_toArray, List.mem_cons, List.not_mem_nil, or_false] at ht
    subst ht
    all_goals kernel_rfl
  exact hall t hm
theorem card : Rows.MetaPlacesCardSaid :=
  Claim7.holds_tied_plain_at .later [] _ _ _ _ said (fun _ h => by cases h) (by kernel_rfl) (fun _ h => by cases h) metaPlaces_row_tie rfl ⟨rfl, rfl⟩ (by kernel_rfl) rfl plain (by kernel_rfl)
end Go.Proofs.YtgajlippppebpaaDoor.metaPlacesRow
namespace Go.Proofs.YtgajlippppebpaaDoor
theorem metaPlaces_holds : Rows.MetaPlacesCardSaid := metaPlacesRow.card
#print axioms metaPlaces_holds
end Go.Proofs.YtgajlippppebpaaDoor
