/- Arguments opened: a slice of bytes that came in reads as a list of bytes. -/
import Derived.Test.YtmeakhiiebeneaaGreatDoorB
import Derived.Test.YtmeakhiiebeneaaGreatDoorRows
import Derived.ProofKit
import Derived.OpenShut
import Derived.ChangeOld
import Derived.SizedLaws
import Derived.ChangeSlices
import Derived.Deep.DeepHandedRow
import Derived.Test.YtmeakhiiebeneaaGreatDoorM1
import Derived.Deep.Matrix
import Derived.Test.YtmeakhiiebeneaaGreatDoorPb
import Derived.Lib.SmallJoins
namespace Go.Proofs.YtmeakhiiebeneaaGreatDoor
open Go.ChangeShapes Go.WideShapes Go.ChangeAt Go.RowKit

theorem own_knob : ownKnob Tryz.prog.godebug = none := by kernel_rfl
theorem laid_out : laidOutB Tryz.prog = true := by kernel_rfl
theorem cells_u8 : Tryz.prog.cellsOf 5 = 1 := by kernel_rfl
theorem bytes_u8 : Tryz.prog.bytesOf 5 = 1 := by kernel_rfl

theorem wf_u8 {z : Int} (h : (Lit.int .u8 z).wf = true) : 0 ≤ z ∧ z < 256 := by
  simp only [Lit.wf, IntKind.min, IntKind.max, IntKind.signed, IntKind.bits, Bool.and_eq_true, decide_eq_true_eq, Bool.false_eq_true, if_false] at h
  omega
theorem wf_u32 {z : Int} (h : (Lit.int .u32 z).wf = true) : 0 ≤ z ∧ z < 4294967296 := by
  simp only [Lit.wf, IntKind.min, IntKind.max, IntKind.signed, IntKind.bits, Bool.and_eq_true, decide_eq_true_eq, Bool.false_eq_true, if_false] at h
  omega
theorem wf_u64 {z : Int} (h : (Lit.int .u64 z).wf = true) : ∃ b : Nat, z = (b : Int) ∧ b < 18446744073709551616 := by
  simp only [Lit.wf, IntKind.min, IntKind.max, IntKind.signed, IntKind.bits, Bool.and_eq_true, decide_eq_true_eq, Bool.false_eq_true, if_false] at h
  exact ⟨z.toNat, by omega, by omega⟩
theorem wf_i64 {z : Int} (h : (Lit.int .i64 z).wf = true) : -9223372036854775808 ≤ z ∧ z ≤ 9223372036854775807 := by
  simp only [Lit.wf, IntKind.min, IntKind.max, IntKind.signed, IntKind.bits, Bool.and_eq_true, decide_eq_true_eq, if_true] at h
  omega
theorem wf_byte {z : Int} (h : (Lit.int .u8 z).wf = true) : ∃ b : UInt8, z = (b.toNat : Int) := by
  have ⟨h0, h1⟩ := wf_u8 h
  exact ⟨UInt8.ofNat z.toNat, by rw [UInt8.toNat_ofNat']; omega⟩

theorem open_bytes {H : Type} {enc : TypeId × Value → H} {W : World} {base : Nat} {held : Bool} {a : Option Addr} {len cap : Nat} {d : DataW H} {ps : List MemPlace}
    (h : DataW.Trod enc Tryz.prog W base (fun _ => true) held 40 (.slice a len cap) d ps) : ∃ xs, RB W a len cap xs := by
  obtain ⟨fuel, hf⟩ := h
  rcases open_ints Tryz.underlying40 Tryz.underlying5 cells_u8 hf with ⟨hcs, _⟩ | ⟨x, l, c, zs, hcs, _, hl, hm, hz, _, hcell, hwz⟩
  · simp [Value.cells] at hcs
    obtain ⟨rfl, rfl, rfl⟩ := hcs
    exact ⟨[], RB.nil W⟩
  · simp [Value.cells] at hcs
    obtain ⟨rfl, rfl, rfl⟩ := hcs
    have hz' : zs.length = cap := by simpa using hz
    have hbyte : ∀ z ∈ zs, (((UInt8.ofNat z.toNat).toNat : Nat) : Int) = z := by
      intro z hzm
      have ⟨h0, h1⟩ := wf_u8 (hwz z hzm)
      rw [UInt8.toNat_ofNat']; omega
    refine ⟨(zs.take len).map fun z => UInt8.ofNat z.toNat, ⟨by rw [u8s_length, List.length_map, List.length_take]; omega, hl, hm, (fun e => by cases e), (fun ad e j u hu => ?_)⟩⟩
    cases e
    unfold u8s at hu
    rw [List.map_map, List.getElem?_map, List.getElem?_take] at hu
    split at hu
    · rename_i hj
      rw [hcell j (by omega)]
      rw [List.getElem?_eq_getElem (by omega)] at hu
      simp only [Option.map_some, Function.comp] at hu
      rw [hbyte _ (List.getElem_mem _)] at hu
      rw [← hu, List.getD_eq_getElem?_getD, List.getElem?_eq_getElem (by omega)]
      rfl
    · simp at hu

theorem sized_bytes {H : Type} {enc : TypeId × Value → H} {W : World} {base : Nat} {held : Bool} {a : Option Addr} {len cap : Nat} {d : DataW H} {ps : List MemPlace} {ts : List TypeId} {ds : List (DataW H)} {j : Nat}
    (hsz : (DataW.weightsEach Tryz.prog ts ds).all (· ≤ reachBytes) = true) (ht : ts[j]? = some 40) (hd : ds[j]? = some d)
    (h : DataW.Trod enc Tryz.prog W base (fun _ => true) held 40 (.slice a len cap) d ps) : len ≤ 140737488351232 := by
  obtain ⟨fuel, hf⟩ := h
  rcases open_ints Tryz.underlying40 Tryz.underlying5 cells_u8 hf with ⟨hcs, _⟩ | ⟨x, l, c, zs, hcs, _, hl, _, hz, hx, _, _⟩
  · simp [Value.cells] at hcs
    obtain ⟨rfl, rfl, rfl⟩ := hcs
    simp
  · simp [Value.cells] at hcs
    obtain ⟨rfl, rfl, rfl⟩ := hcs
    obtain ⟨hx, _⟩ := Prod.mk.inj hx
    subst hx
    have z := sized_slice hsz ht hd Tryz.underlying40
    rw [bytes_u8, Nat.mul_one] at z
    have hz' : zs.length = cap := by simpa using hz
    have h1 : (lits (H := H) .u8 (zs.take len)).length + (lits (H := H) .u8 (zs.drop len)).length = zs.length := by
      simp [lits]
      omega
    rw [h1] at z
    have : reachBytes = 140737488351232 := by decide
    omega
end Go.Proofs.YtmeakhiiebeneaaGreatDoor
namespace Go.Proofs.YtmeakhiiebeneaaGreatDoor
open Go.ChangeShapes Go.WideShapes Go.ChangeAt Go.RowKit

theorem cells_bs : Tryz.prog.cellsOf 40 = 1 := by kernel_rfl
/-- numbers that are bytes. -/
def asBytes (zs : List Int) : List UInt8 := zs.map fun z => UInt8.ofNat z.toNat
theorem row_RB {W : World} {A : Option Addr} {n c : Nat} {zs : List Int} (hl : n ≤ c) (hm : c ≤ maxLen) (hz : zs.length = c) (hwz : ∀ z ∈ zs, (Lit.int .u8 z).wf = true) (hnon : A = none → c = 0)
    (hcell : ∀ ad, A = some ad → ∀ j, j < c → W.cell? (ad.add j) = some (.int .u8 (zs.getD j 0))) : RB W A n c (asBytes (zs.take n)) := by
  have hbyte : ∀ z ∈ zs, (((UInt8.ofNat z.toNat).toNat : Nat) : Int) = z := by
    intro z hzm
    have ⟨h0, h1⟩ := wf_u8 (hwz z hzm)
    rw [UInt8.toNat_ofNat']; omega
  refine ⟨by rw [u8s_length, asBytes, List.length_map, List.length_take]; omega, hl, hm, hnon, fun ad e j u hu => ?_⟩
  unfold asBytes u8s at hu
  rw [List.map_map, List.getElem?_map, List.getElem?_take] at hu
  split at hu
  · rename_i hj
    rw [hcell ad e j (by omega)]
    rw [List.getElem?_eq_getElem (by omega)] at hu
    simp only [Option.map_some, Function.comp] at hu
    rw [hbyte _ (List.getElem_mem _)] at hu
    rw [← hu, List.getD_eq_getElem?_getD, List.getElem?_eq_getElem (by omega)]
    rfl
  · simp at hu

theorem open_bytess {H : Type} {enc : TypeId × Value → H} {W : World} {base : Nat} {held : Bool} {a : Option Addr} {len cap : Nat} {d : DataW H} {ps : List MemPlace}
    (h : DataW.Trod enc Tryz.prog W base (fun _ => true) held 25 (.slice a len cap) d ps) : ∃ vs xss, RM W a len cap vs xss := by
  obtain ⟨fuel, hf⟩ := h
  rcases Go.Deep.open_int_rows Tryz.underlying25 Tryz.underlying40 Tryz.underlying5 cells_bs cells_u8 hf with ⟨hcs, _⟩ | ⟨ad, l, c, A, L, C, Z, hcs, _, hl, hm, _, hrow⟩
  · simp [Value.cells] at hcs
    obtain ⟨rfl, rfl, rfl⟩ := hcs
    exact ⟨[], [], ⟨⟨rfl, Nat.le_refl _, Nat.zero_le _, fun _ => rfl, fun ad e => by cases e⟩, rfl, fun j xs hj => by simp at hj⟩⟩
  · simp [Value.cells] at hcs
    obtain ⟨rfl, rfl, rfl⟩ := hcs
    refine ⟨(List.range len).map fun r => .slice (A r) (L r) (C r), (List.range len).map fun r => asBytes ((Z r).take (L r)), ⟨⟨by simp, hl, hm, (fun e => by cases e), ?_⟩, by simp, ?_⟩⟩
    · intro ad' e j u hu
      cases e
      rw [List.getElem?_map] at hu
      by_cases hj : j < len
      · rw [List.getElem?_range hj] at hu
        simp at hu
        rw [(hrow j (by omega)).1, hu]
      · rw [List.getElem?_eq_none (by simp; omega)] at hu
        simp at hu
    · intro j xs hj
      rw [List.getElem?_map] at hj
      by_cases hlt : j < len
      · rw [List.getElem?_range hlt] at hj
        simp at hj
        obtain ⟨e1, e2, e3, e4, e5, e6, e7⟩ := hrow j (by omega)
        refine ⟨A j, L j, C j, by rw [List.getElem?_map, List.getElem?_range hlt]; rfl, ?_⟩
        rw [← hj]
        exact row_RB e2 e3 e4 e5 e6 (fun ad' q => (e7 ad' q).2)
      · rw [List.getElem?_eq_none (by simp; omega)] at hj
        simp at hj
end Go.Proofs.YtmeakhiiebeneaaGreatDoor
namespace Go.Proofs.YtmeakhiiebeneaaGreatDoor
open Go.ChangeShapes Go.WideShapes Go.ChangeAt Go.RowKit

set_option maxRecDepth 100000 in
theorem cells_kid : Tryz.prog.cellsOf 124 = 2 := by kernel_rfl
set_option maxRecDepth 100000 in
theorem cells_kint : Tryz.prog.cellsOf 3 = 1 := by kernel_rfl
set_option maxRecDepth 100000 in
theorem kidCells_cases (l : List (Int × Int)) (j : Nat) (u : Value) (h : (kidCells l)[j]? = some u) : ∃ i k, l[i]? = some k ∧ ((j = i * 2 ∧ u = .int .i64 k.1) ∨ (j = i * 2 + 1 ∧ u = .int .i64 k.2)) := by
  have hj : j < l.length * 2 := by rw [← kidCells_length]; exact (List.getElem?_eq_some_iff.1 h).1
  have hi : j / 2 < l.length := by omega
  have hk : l[j / 2]? = some l[j / 2] := List.getElem?_eq_getElem hi
  obtain ⟨g1, g2⟩ := kidCells_get l (j / 2) _ hk
  refine ⟨j / 2, _, hk, ?_⟩
  rcases Nat.mod_two_eq_zero_or_one j with q | q
  · have e : j / 2 * 2 = j := by omega
    rw [e, h] at g1
    exact Or.inl ⟨e.symm, Option.some.inj g1⟩
  · have e : j / 2 * 2 + 1 = j := by omega
    rw [e, h] at g2
    exact Or.inr ⟨e.symm, Option.some.inj g2⟩
set_option maxRecDepth 100000 in
theorem open_kids {H : Type} {enc : TypeId × Value → H} {W : World} {base : Nat} {held : Bool} {a : Option Addr} {len cap : Nat} {d : DataW H} {ps : List MemPlace}
    (h : DataW.Trod enc Tryz.prog W base (fun _ => true) held 78 (.slice a len cap) d ps) : ∃ l, RK W a len cap l := by
  obtain ⟨fuel, hf⟩ := h
  rcases Go.Deep.open_slice Tryz.underlying78 hf with ⟨hcs, _⟩ | ⟨ad, l, c, m, n, D, Pl, hcs, _, hl, hm, hmm, _, hi⟩
  · simp [Value.cells] at hcs
    obtain ⟨rfl, rfl, rfl⟩ := hcs
    exact ⟨[], rfl, Nat.le_refl _, Nat.zero_le _, fun _ => rfl, fun ad e => by cases e⟩
  · simp [Value.cells] at hcs
    obtain ⟨rfl, rfl, rfl⟩ := hcs
    have hml : len ≤ m := by rw [hmm]; split <;> omega
    have key : ∀ i, i < len → ∃ x y : Int, W.cell? (ad.add (i * 2)) = some (.int .i64 x) ∧ W.cell? ((ad.add (i * 2)).add 1) = some (.int .i64 y) := by
      intro i him
      obtain ⟨cs', hc, ht'⟩ := hi i (by omega)
      rw [cells_kid] at hc
      obtain ⟨xs, k, _, _, _, hlen, hg⟩ := DataW.trod_struct Tryz.underlying124 ht'
      obtain ⟨_, hcl, hat⟩ := World.cells?_some hc
      match cs', hcl with
      | [c0, c1], _ =>
        match xs, hlen with
        | [y0, y1], _ =>
          have g0 : DataW.trod enc Tryz.prog W base (fun _ => true) held k 3 (([c0, c1].drop 0).take (Tryz.prog.cellsOf 3)) = some y0 := hg 0 _ rfl
          have g1 : DataW.trod enc Tryz.prog W base (fun _ => true) held k 3 (([c0, c1].drop 1).take (Tryz.prog.cellsOf 3)) = some y1 := hg 1 _ rfl
          rw [cells_kint] at g0 g1
          obtain ⟨a0, h0, _, w0⟩ := DataW.trod_int Tryz.underlying3 g0
          obtain ⟨a1, h1, _, w1⟩ := DataW.trod_int Tryz.underlying3 g1
          simp at h0 h1
          subst h0 h1
          have q0 := hat 0 (by decide)
          have q1 := hat 1 (by decide)
          refine ⟨a0, a1, ?_, q1⟩
          have e : (ad.add (i * 2)).add 0 = ad.add (i * 2) := by generalize ad.add (i * 2) = b; unfold Addr.add; exact if_pos rfl
          rwa [e] at q0
    refine ⟨(List.range len).map fun i => if hi : i < len then ((key i hi).choose, (key i hi).choose_spec.choose) else (0, 0), by rw [kidCells_length]; simp, hl, hm, (fun e => by cases e), fun ad' e j u hu => ?_⟩
    cases e
    obtain ⟨i, k, hk, hc⟩ := kidCells_cases _ j u hu
    have hil : i < len := by have := (List.getElem?_eq_some_iff.1 hk).1; simpa using this
    rw [List.getElem?_map, List.getElem?_range hil] at hk
    simp only [Option.map_some] at hk
    rw [dif_pos hil] at hk
    cases hk
    have sp := (key i hil).choose_spec.choose_spec
    rcases hc with ⟨rfl, rfl⟩ | ⟨rfl, rfl⟩
    · exact sp.1
    · refine Eq.trans (congrArg W.cell? ?_) sp.2
      rw [Addr.add_add]
end Go.Proofs.YtmeakhiiebeneaaGreatDoor
