/- Arguments opened: a slice of slices of bytes. -/
import Derived.Test.YtenalocpmigppaaGreatDoorRM
import Derived.Test.YtenalocpmigppaaGreatDoorOpen
import Derived.Deep.Matrix
namespace Go.Proofs.YtenalocpmigppaaGreatDoor
open Go.ChangeShapes Go.WideShapes Go.ChangeAt Go.RowKit

theorem cells_bs : Tryz.prog.cellsOf 42 = 1 := by kernel_rfl
/-- numbers that are bytes. -/
def asBytes (zs : List Int) : List UInt8 := zs.map fun z => UInt8.ofNat z.toNat
theorem row_RB {W : World} {A : Option Addr} {n c : Nat} {zs : List Int} (hl : n ≤ c) (hm : c ≤ maxLen) (hz : zs.length = c) (hwz : ∀ z ∈ zs, (Lit.int .u8 z).wf = true) (hnon : A = none → c = 0)
    (hcell : ∀ ad, A = some ad → ∀ j, j < c → W.cell? (ad.add j) = some (.int .u8 (zs.getD j 0))) : RB W A n c (asBytes (zs.take n)) := by
  have hbyte : ∀ z ∈ zs, (((UInt8.ofNat z.toNat).toNat : Nat) : Int) = z := by
    intro z hzm
    have ⟨h0, h1⟩ := wf_u8 (hwz z hzm)
    rw [UInt8.toNat_ofNat']; omega
  refine ⟨by rw [u8s_length, asBytes, List.length_map, List.length_take]; omega, hl, hm, hnon, fun ad e j u hu => ?_⟩
  unfold asBytes u8s at hu
  rw [List.map_map, List.getElem?_map, List.getElem?_take] at hu
  split at hu
  · rename_i hj
    rw [hcell ad e j (by omega)]
    rw [List.getElem?_eq_getElem (by omega)] at hu
    simp only [Option.map_some, Function.comp] at hu
    rw [hbyte _ (List.getElem_mem _)] at hu
    rw [← hu, List.getD_eq_getElem?_getD, List.getElem?_eq_getElem (by omega)]
    rfl
  · simp at hu

theorem open_bytess {H : Type} {enc : TypeId × Value → H} {W : World} {base : Nat} {held : Bool} {a : Option Addr} {len cap : Nat} {d : DataW H} {ps : List MemPlace}
    (h : DataW.Trod enc Tryz.prog W base (fun _ => true) held 26 (.slice a len cap) d ps) : ∃ vs xss, RM W a len cap vs xss := by
  obtain ⟨fuel, hf⟩ := h
  rcases Go.Deep.open_int_rows Tryz.underlying26 Tryz.underlying42 Tryz.underlying5 cells_bs cells_u8 hf with ⟨hcs, _⟩ | ⟨ad, l, c, A, L, C, Z, hcs, _, hl, hm, _, hrow⟩
  · simp [Value.cells] at hcs
    obtain ⟨rfl, rfl, rfl⟩ := hcs
    exact ⟨[], [], ⟨⟨rfl, Nat.le_refl _, Nat.zero_le _, fun _ => rfl, fun ad e => by cases e⟩, rfl, fun j xs hj => by simp at hj⟩⟩
  · simp [Value.cells] at hcs
    obtain ⟨rfl, rfl, rfl⟩ := hcs
    refine ⟨(List.range len).map fun r => .slice (A r) (L r) (C r), (List.range len).map fun r => asBytes ((Z r).take (L r)), ⟨⟨by simp, hl, hm, (fun e => by cases e), ?_⟩, by simp, ?_⟩⟩
    · intro ad' e j u hu
      cases e
      rw [List.getElem?_map] at hu
      by_cases hj : j < len
      · rw [List.getElem?_range hj] at hu
        simp at hu
        rw [(hrow j (by omega)).1, hu]
      · rw [List.getElem?_eq_none (by simp; omega)] at hu
        simp at hu
    · intro j xs hj
      rw [List.getElem?_map] at hj
      by_cases hlt : j < len
      · rw [List.getElem?_range hlt] at hj
        simp at hj
        obtain ⟨e1, e2, e3, e4, e5, e6, e7⟩ := hrow j (by omega)
        refine ⟨A j, L j, C j, by rw [List.getElem?_map, List.getElem?_range hlt]; rfl, ?_⟩
        rw [← hj]
        exact row_RB e2 e3 e4 e5 e6 (fun ad' q => (e7 ad' q).2)
      · rw [List.getElem?_eq_none (by simp; omega)] at hj
        simp at hj
end Go.Proofs.YtenalocpmigppaaGreatDoor
