/- coppicelaw6: first; the walks of ChainData, ChainList, ChainReads, ChainPages. -/
import Derived.Test.YtmeakhiiebeneaaGreatDoorNl
import Derived.Test.YtmeakhiiebeneaaGreatDoorNm
import Derived.Lib.SlBytesConst
namespace Go.Proofs.YtmeakhiiebeneaaGreatDoor
open Go.RowKit

theorem num_calls (k : Int) (w : World) : Calls Tryz.prog 39 #[.int .i64 k] w fun e w' => e = .returned (.int .i64 k) ∧ w = w' := by
  go_enter Tryz.func39, Tryz.ntmps39
  go_wp2
  go_ret
  exact ⟨rfl, rfl⟩
theorem abc_enc : encDS 0 [97, 98, 99] = (encD 0 [97, 98, 99], 0) := by unfold encDS; rw [if_pos (by decide), if_pos (by decide)]; rfl
theorem abc_dec : decD (encD 0 [97, 98, 99]) = (0, [97, 98, 99], 0) := decD_encD 0 [97, 98, 99] (by decide) (by decide)
theorem abc_take : (encD 0 [97, 98, 99]).take 11 = [3, 0, 0, 0, 0, 3, 0, 97, 98, 99, 0] := by decide +kernel
theorem lst_enc : encLS 0 [2, 5, 300] = (encL 0 [2, 5, 300], 0) := by unfold encLS; rw [if_pos (by decide), if_pos (by decide)]; rfl
theorem lst_take : (encL 0 [2, 5, 300]).take 19 = [4, 0, 0, 0, 0, 3, 0, 2, 0, 0, 0, 5, 0, 0, 0, 44, 1, 0, 0] := by decide +kernel
theorem i64_lit (w : World) : RI (w.alloc (.cells #[.int .i64 2, .int .i64 5, .int .i64 300] 3)) (some ⟨w.heap.size, 0, none⟩) 3 3 [2, 5, 300] :=
  OC.read (e := 3) (OC.mk rfl _ (heap_alloc_new w _) (Nat.le_refl _) (by rw [maxLen_is]; omega) rfl rfl)

set_option maxRecDepth 100000 in
set_option maxHeartbeats 4000000 in
theorem first_calls (w : World) :
    Calls Tryz.prog 28 #[] w fun en w' => en = .returned (.bool true) ∧ Below w.heap.size w w' := by
  have C1 := fun A n c W q => EncodeData_calls 0 A n c [97, 98, 99] W q
  rw [abc_enc] at C1
  have C2 := fun A n c W q => DecodeData_calls A n c (encD 0 [97, 98, 99]) W q
  rw [abc_dec] at C2
  have C3 := fun A n c W q => EncodeList_calls 0 A n c [2, 5, 300] W q
  rw [lst_enc] at C3
  have T1 := hideIt abc_take
  have T3 := hideIt lst_take
  have l1 : (encD 0 [97, 98, 99]).length = 4092 := encD_length _ _ (by decide)
  have l3 : (encL 0 [2, 5, 300]).length = 4092 := encL_length _ _ (by decide)
  generalize encD 0 [97, 98, 99] = X1 at *
  generalize encL 0 [2, 5, 300] = X3 at *
  have L1 := hideIt l1
  have L3 := hideIt l3
  clear l1 l3
  have b0 := below1 w (.cells #[.int .u8 97, .int .u8 98, .int .u8 99] 5 (3, 4))
  have kc := fun (w : World) (C : Array Value) (n c : Nat) => Lib.run_convert_bytes_const (P := Tryz.prog) w 40 5 C n c Tryz.underlying40 Tryz.underlying5
  have P1 := fun W => Pages_calls 513 W
  have P2 := fun W => Pages_calls 512 W
  rw [show pagesS 513 = 1 from by decide] at P1
  rw [show pagesS 512 = 0 from by decide] at P2
  go_enter Tryz.func28, Tryz.ntmps28
  go_upto_region 2 with (go_at_call 35; refine (C1 _ _ _ _ (lit_read w [97, 98, 99] 3 _ _ rfl (by omega))).mono ?_; rintro en w1 ⟨A1, m1, c1, rfl, q1, x1⟩)
  have b1 := blw_step b0 x1
  obtain ⟨rfl, g1, rfl, -, o1⟩ := q1.full L1.out (by omega)
  clear b0 x1 C1
  go_upto_region 3 with (go_at_call 40; refine (C2 _ _ _ _ o1.read).mono ?_; rintro en w2 ⟨A2, m2, c2, rfl, q2, x2⟩)
  have b2 := blw_step b1 x2
  have o2 := o1.below x2
  obtain rfl : m2 = 3 := q2.read.len.symm
  clear b1 x2 C2 o1 q1
  have ba := below1 w2 (.cells #[.int .u8 97, .int .u8 98, .int .u8 99] 5 (3, 4))
  have q2a := q2.below ba
  go_upto_region 4 with (go_at_call 12; refine (SameBytes_calls _ _ _ _ _ _ _ _ _ q2a.read (lit_read w2 [97, 98, 99] 3 _ _ rfl (by omega)) true (by simp)).mono ?_; rintro en wx ⟨rfl, rfl⟩)
  have b3 := blw_step b2 ba
  have o3 := o2.below ba
  clear b2 ba o2 q2 q2a
  generalize w2.alloc (.cells #[.int .u8 97, .int .u8 98, .int .u8 99] 5 (3, 4)) = w3 at *
  have bb := below1 w3 (.cells #[.int .i64 2, .int .i64 5, .int .i64 300] 3)
  go_upto_region 5 with (go_at_call 37; refine (C3 _ _ _ _ (i64_lit w3)).mono ?_; rintro en w4 ⟨A4, m4, c4, rfl, q4, x4⟩)
  have b4 := blw_step (blw_step b3 bb) x4
  have o4 := (o3.below bb).below x4
  obtain ⟨rfl, g4, rfl, -, p4⟩ := q4.full L3.out (by omega)
  clear b3 bb x4 o3 q4 C3
  have hc1 := OC.le o4
  have hc4 := OC.le p4
  have i1 : (11 : Int) ≤ (c1 : Int) := by omega
  have i4 : (19 : Int) ≤ (c4 : Int) := by omega
  go_upto_region 7 with (go_at_call 39; refine (num_calls _ _).mono ?_; rintro en wx ⟨rfl, rfl⟩)
  have t1 := o4.read.take 11 (by omega)
  have t4 := p4.read.take 19 (by omega)
  rw [T1.out] at t1
  rw [T3.out] at t4
  clear o4 p4
  have ba := below1 w4 (.cells #[.int .u8 3, .int .u8 0, .int .u8 0, .int .u8 0, .int .u8 0, .int .u8 3, .int .u8 0, .int .u8 97, .int .u8 98, .int .u8 99, .int .u8 0] 5)
  have t1a := t1.below ba
  have t4a := t4.below ba
  have b5 := blw_step b4 ba
  go_upto_region 8 with (go_at_call 12; refine (SameBytes_calls _ _ _ _ _ _ _ _ _ t1a (lit_read w4 [3, 0, 0, 0, 0, 3, 0, 97, 98, 99, 0] 11 _ _ rfl (by omega)) true (by simp)).mono ?_; rintro en wx ⟨rfl, rfl⟩)
  clear t1 t4 t1a b4 ba
  generalize w4.alloc (.cells #[.int .u8 3, .int .u8 0, .int .u8 0, .int .u8 0, .int .u8 0, .int .u8 3, .int .u8 0, .int .u8 97, .int .u8 98, .int .u8 99, .int .u8 0] 5) = w5 at *
  have bb := below1 w5 (.cells #[.int .u8 4, .int .u8 0, .int .u8 0, .int .u8 0, .int .u8 0, .int .u8 3, .int .u8 0, .int .u8 2, .int .u8 0, .int .u8 0, .int .u8 0, .int .u8 5, .int .u8 0, .int .u8 0, .int .u8 0, .int .u8 44, .int .u8 1, .int .u8 0, .int .u8 0] 5)
  have t4b := t4a.below bb
  have b6 := blw_step b5 bb
  go_upto_region 9 with (go_at_call 12; refine (SameBytes_calls _ _ _ _ _ _ _ _ _ t4b (lit_read w5 [4, 0, 0, 0, 0, 3, 0, 2, 0, 0, 0, 5, 0, 0, 0, 44, 1, 0, 0] 19 _ _ rfl (by omega)) true (by simp)).mono ?_; rintro en wx ⟨rfl, rfl⟩)
  clear t4a t4b b5 bb
  go_wp2_with (first
    | (go_at_call 83; (with_reducible refine (P2 _).mono ?_); rintro en wx ⟨rfl, rfl⟩)
    | (go_at_call 83; (with_reducible refine (P1 _).mono ?_); rintro en wx ⟨rfl, rfl⟩))
  go_ret
  exact ⟨rfl, b6⟩

end Go.Proofs.YtmeakhiiebeneaaGreatDoor
