/- Rows of slices of bytes of the call's own (OM); chain.Pieces, coppiceref6.Pieces, SameByteLists, SameInts. -/
import Derived.Test.YtmeakhiiebeneaaGreatDoorNk
import Derived.Test.YtmeakhiiebeneaaGreatDoorM1
namespace Go.Proofs.YtmeakhiiebeneaaGreatDoor
open Go.RowKit

structure PieceAt (v : List UInt8) (n i F T L : Nat) : Prop where
  f : (i : Int) * 4085 = (F : Int)
  t : (T : Int) = if (F : Int) + 4085 ≤ (n : Int) then (F : Int) + 4085 else (n : Int)
  l : (T : Int) - (F : Int) = (L : Int)
  l' : T - F = L
  ne : F < T
  le : T ≤ n
  piece : (v.drop F).take L = (v.drop (4085 * i)).take 4085
  l1 : 1 ≤ L ∧ L ≤ 4085
theorem piece_at (v : List UInt8) (n i : Nat) (hn : v.length = n) (h : i < pagesS (n : Int)) : ∃ F T L, PieceAt v n i F T L := by
  have hp := pages_last n i h
  refine ⟨4085 * i, min (4085 * i + 4085) n, min (4085 * i + 4085) n - 4085 * i, by omega, by split <;> omega, by omega, rfl, by omega, by omega, ?_, by omega⟩
  by_cases hc : 4085 * i + 4085 ≤ n
  · rw [Nat.min_eq_left hc, Nat.add_sub_cancel_left]
  · rw [Nat.min_eq_right (by omega), List.take_of_length_le (by rw [List.length_drop]; omega), List.take_of_length_le (by rw [List.length_drop]; omega)]

def piecesTo (v : List UInt8) (k : Nat) : List (List UInt8) := (List.range k).map fun i => (v.drop (4085 * i)).take 4085
theorem piecesTo_succ (v : List UInt8) (k : Nat) : piecesTo v (k + 1) = piecesTo v k ++ [(v.drop (4085 * k)).take 4085] := by simp [piecesTo, List.range_succ]
def ManyB (w : World) (xss : List (List UInt8)) (e : Ending) (w' : World) : Prop := ∃ A m c ps, e = .returned (.slice A m c) ∧ OM w' w.heap.size A m c ps xss ∧ Below w.heap.size w w'

set_option maxRecDepth 100000 in
set_option maxHeartbeats 4000000 in
theorem Pieces_calls (A : Option Addr) (n c : Nat) (v : List UInt8) (w : World) (h : RB w A n c v) :
    Calls Tryz.prog 31 #[.slice A n c] w (ManyB w (pieces v)) := by
  have HL := hideIt h.len
  have mx : n ≤ 9223372036854775807 := by have h1 := RC.le h; have h2 := RC.mx h; rw [maxLen_is] at h2; omega
  have hcap := RC.le h
  have cmx : c ≤ 9223372036854775807 := by have h2 := RC.mx h; rw [maxLen_is] at h2; omega
  obtain ⟨K, hK⟩ : ∃ K, pagesS (n : Int) = K := ⟨_, rfl⟩
  have K65 : K ≤ 65 := by rw [← hK]; exact pages_le _
  have PC := fun W => Pages_calls (n : Int) W
  rw [hK] at PC
  have HK := hideIt hK
  have HP : Hid (pieces v = piecesTo v K) := hideIt (by unfold pieces piecesTo; rw [HL.out, hK])
  clear hK
  go_enter Tryz.func31, Tryz.ntmps31
  go_wp2_with (go_at_call 83; refine (PC _).mono ?_; rintro en wx ⟨rfl, rfl⟩)
  go_loopw [3, 11] (fun oo kk wr => ∃ (i c3 : Nat) (A3 : Option Addr) (ps : List (Option Addr × Nat × Nat)), i ≤ K ∧ kk = .int .i64 (i : Int) ∧ oo = .slice A3 i c3 ∧ OM wr w.heap.size A3 i c3 ps (piecesTo v i) ∧ Below w.heap.size w wr)
    (fun _ kk _ => K - (intOf kk).toNat)
  case atStart => exact ⟨0, 0, none, [], by omega, rfl, rfl, OM.nil _ _, Below.refl _ _⟩
  case round =>
    obtain ⟨i, c3, A3, ps, hi, rfl, rfl, om, bw⟩ := hrel
    by_cases hlt : i < K
    · obtain ⟨F, T, L, pa⟩ := piece_at v n i HL.out (by rw [HK.out]; exact hlt)
      have i1 : (i : Int) < (K : Int) := by omega
      have hf := pa.f
      have hmin := min_at ((F : Int) + 4085) n T pa.t
      have hl := pa.l
      have hl' := pa.l'
      have hne := pa.ne
      have hle := pa.le
      obtain ⟨l1, l2⟩ := pa.l1
      have hc7 : ¬ T = F := by omega
      have i2 : (F : Int) ≤ (T : Int) := by omega
      have i3 : (T : Int) ≤ (c : Int) := by omega
      have i4 : (T : Int) ≤ (n : Int) := by omega
      have PI := hideIt pa.piece
      obtain ⟨D, hD⟩ : ∃ D, (v.drop F).take L = D := ⟨_, rfl⟩
      have hvl : 0 < v.length := by rw [HL.out]; omega
      obtain ⟨ad, rfl, -⟩ := RB.addr h hvl
      have cut := h.cut (A' := some (ad.add F)) F T T (by omega) (by omega) (Nat.le_refl _) (by omega) (fun _ => rfl) (fun q => by cases q)
      rw [hl', hD] at cut
      have HD := hideIt hD
      have cutw := cut.below bw
      have bs := bw.size
      have dl := cut.len
      have cp := hideIt (copy_all L D dl)
      clear hD pa cut hne hle dl hvl
      go_upto_region 8 with (at_make; refine wpB_full rfl _ _ rfl _ _ _ _ L rfl rfl (by omega) (by omega) (by omega) ?_; intro g w2 s2 o2 k2)
      have bk := below_of_grown k2 (Nat.le_refl _) (by simp)
      have cut2 := RB.below cutw bk
      have om2 := om.below bk
      have b2 := blw_step bw bk
      have z2 := k2.size
      have hlo := om.lt
      have HLO := hideIt hlo
      clear bk cutw om k2 hlo
      go_upto_region 9 with (with_reducible refine wpB_copy rfl (.tmp 25) (.tmp 30) rfl _ _ _ rfl _ _ _ rfl g L L 0 _ _ o2 cut2 L (by simp) (fun _ => rfl) (by omega) ?_; intro w3 o3 k3)
      rw [cp.out] at o3
      have gl : wr.heap.size ≤ g := s2
      have b3 := blw_own b2 k3 b2.size (Nat.le_trans bs gl)
      have G3 : GB w3 wr.heap.size (some ⟨g, 0, none⟩) L L D := GB.of o3 gl
      have om3 : OM w3 w.heap.size A3 i c3 ps (piecesTo v i) := om2.under k3 (fun p hp a e => by have := HLO.out p hp a e; omega) o2 (by decide)
      have ba := below1 w3 (.cells #[.slice (some ⟨g, 0, none⟩) L L] 40)
      have om4 := om3.below ba
      have G4 := G3.below ba
      have b4 := blw_step b3 ba
      have R4 := sv_cell w3 (some ⟨g, 0, none⟩, L, L)
      clear om2 om3 G3 o3 k3 b2 b3 ba cut2 o2
      go_wp2_with (with_reducible refine wpM_app rfl (.tmp 32) (.tmp 34) rfl w.heap.size _ _ _ _ rfl om4.row _ (some ⟨g, 0, none⟩, L, L) rfl R4 (by omega) b4.size ?_; intro g5 c5 w5 q5 o5 k5)
      have om5 := om4.push G4 HLO.out bs k5 o5 q5
      rw [show piecesTo v i ++ [D] = piecesTo v (i + 1) by rw [piecesTo_succ, ← PI.out, HD.out]] at om5
      have b5 := GC.under om4.row b4 k5 b4.size
      go_roundw
      case rel => exact ⟨i + 1, c5, _, _, by omega, by go_num, rfl, om5, b5⟩
      case measure => simp [intOf]; omega
    · obtain rfl : K = i := by omega
      go_wp2
      go_ret
      exact ⟨_, _, _, ps, rfl, by rw [HP.out]; exact om, bw⟩

set_option maxRecDepth 100000 in
set_option maxHeartbeats 4000000 in
theorem refPieces_calls (A : Option Addr) (n c : Nat) (v : List UInt8) (w : World) (h : RB w A n c v) :
    Calls Tryz.prog 33 #[.slice A n c] w (ManyB w (pieces v)) := by
  have HL := hideIt h.len
  have mx : n ≤ 9223372036854775807 := by have h1 := RC.le h; have h2 := RC.mx h; rw [maxLen_is] at h2; omega
  have hcap := RC.le h
  have cmx : c ≤ 9223372036854775807 := by have h2 := RC.mx h; rw [maxLen_is] at h2; omega
  obtain ⟨K, hK⟩ : ∃ K, pagesS (n : Int) = K := ⟨_, rfl⟩
  have K65 : K ≤ 65 := by rw [← hK]; exact pages_le _
  have PC := fun W => refPages_calls (n : Int) W
  rw [hK] at PC
  have HK := hideIt hK
  have HP : Hid (pieces v = piecesTo v K) := hideIt (by unfold pieces piecesTo; rw [HL.out, hK])
  clear hK
  go_enter Tryz.func33, Tryz.ntmps33
  go_wp2_with (go_at_call 84; refine (PC _).mono ?_; rintro en wx ⟨rfl, rfl⟩)
  go_loopw [3, 5] (fun oo kk wr => ∃ (i c3 : Nat) (A3 : Option Addr) (ps : List (Option Addr × Nat × Nat)), i ≤ K ∧ kk = .int .i64 (i : Int) ∧ oo = .slice A3 i c3 ∧ OM wr w.heap.size A3 i c3 ps (piecesTo v i) ∧ Below w.heap.size w wr)
    (fun _ kk _ => K - (intOf kk).toNat)
  case atStart => exact ⟨0, 0, none, [], by omega, rfl, rfl, OM.nil _ _, Below.refl _ _⟩
  case round =>
    obtain ⟨i, c3, A3, ps, hi, rfl, rfl, om, bw⟩ := hrel
    by_cases hlt : i < K
    · obtain ⟨F, T, L, pa⟩ := piece_at v n i HL.out (by rw [HK.out]; exact hlt)
      have i1 : (i : Int) < (K : Int) := by omega
      have hf := pa.f
      have hmin := min_at ((F : Int) + 4085) n T pa.t
      have hl := pa.l
      have hl' := pa.l'
      have hne := pa.ne
      have hle := pa.le
      obtain ⟨l1, l2⟩ := pa.l1
      have hc7 : ¬ c = F := by omega
      have i2 : (F : Int) ≤ (T : Int) := by omega
      have i3 : (T : Int) ≤ (c : Int) := by omega
      have i4 : (T : Int) ≤ (n : Int) := by omega
      have i5 : (F : Int) ≤ (c : Int) := by omega
      have PI := hideIt pa.piece
      obtain ⟨D, hD⟩ : ∃ D, (v.drop F).take L = D := ⟨_, rfl⟩
      have hvl : 0 < v.length := by rw [HL.out]; omega
      obtain ⟨ad, rfl, -⟩ := RB.addr h hvl
      have cut := h.cut (A' := some (ad.add F)) F T c (by omega) (by omega) (by omega) (Nat.le_refl _) (fun _ => rfl) (fun q => by cases q)
      rw [hl', hD] at cut
      have HD := hideIt hD
      have cutw := cut.below bw
      have bs := bw.size
      have hlo := om.lt
      have HLO := hideIt hlo
      clear hD pa cut hne hle hvl hlo
      go_upto_region 9 with (go_at_call 22; refine (Bytes_calls _ _ _ _ _ cutw (by omega)).mono ?_; rintro en w3 ⟨g, cg, rfl, gl, o3, bk⟩)
      have b3 := blw_step bw bk
      have G3 : GB w3 wr.heap.size (some ⟨g, 0, none⟩) L cg D := GB.of o3 gl
      have om3 := om.below bk
      have ba := below1 w3 (.cells #[.slice (some ⟨g, 0, none⟩) L cg] 40)
      have om4 := om3.below ba
      have G4 := G3.below ba
      have b4 := blw_step b3 ba
      have R4 := sv_cell w3 (some ⟨g, 0, none⟩, L, cg)
      clear om om3 G3 o3 b3 ba bk cutw
      go_wp2_with (with_reducible refine wpM_app rfl (.tmp 29) (.tmp 31) rfl w.heap.size _ _ _ _ rfl om4.row _ (some ⟨g, 0, none⟩, L, cg) rfl R4 (by omega) b4.size ?_; intro g5 c5 w5 q5 o5 k5)
      have om5 := om4.push G4 HLO.out bs k5 o5 q5
      rw [show piecesTo v i ++ [D] = piecesTo v (i + 1) by rw [piecesTo_succ, ← PI.out, HD.out]] at om5
      have b5 := GC.under om4.row b4 k5 b4.size
      go_roundw
      case rel => exact ⟨i + 1, c5, _, _, by omega, by go_num, rfl, om5, b5⟩
      case measure => simp [intOf]; omega
    · obtain rfl : K = i := by omega
      go_wp2
      go_ret
      exact ⟨_, _, _, ps, rfl, by rw [HP.out]; exact om, bw⟩
end Go.Proofs.YtmeakhiiebeneaaGreatDoor
