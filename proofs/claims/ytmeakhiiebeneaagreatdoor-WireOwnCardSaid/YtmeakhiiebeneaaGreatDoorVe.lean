/- coppicelaw1.first, num, room. -/
import Derived.Test.YtmeakhiiebeneaaGreatDoorVb
import Derived.Test.YtmeakhiiebeneaaGreatDoorVc
import Derived.Test.YtmeakhiiebeneaaGreatDoorWg16
import Derived.Test.YtmeakhiiebeneaaGreatDoorWp16
import Derived.Test.YtmeakhiiebeneaaGreatDoorLit
import Derived.Test.YtmeakhiiebeneaaGreatDoorWoE
import Derived.Deep.CutRange
namespace Go.Proofs.YtmeakhiiebeneaaGreatDoor
open Go.RowKit

set_option maxHeartbeats 400000 in
theorem num_calls (k : Int) (w : World) : Calls Tryz.prog 77 #[.int .i64 k] w fun e w' => e = .returned (.int .i64 k) ∧ w = w' := by
  go_enter Tryz.func77, Tryz.ntmps77
  go_wp2
  go_ret
  exact ⟨rfl, rfl⟩
theorem ret_bool {a b : Bool} (h : a = b) : Ending.returned (.bool a) = Ending.returned (.bool b) := by rw [h]

def R0 : List UInt8 := [2, 1, 177, 9, 3, 4, 5]
theorem r0_a : numS R0 0 0 2 = (258, 2, 0) := by decide +kernel
theorem r0_b : vS R0 2 0 = (1201, 4, 0) := by decide +kernel
theorem r0_c : bytesS R0 4 0 2 = ([3, 4], 6, 0) := by decide +kernel
theorem r0_d : leftS R0 6 0 = 1 := by decide +kernel
theorem r0_e : numS R0 6 0 2 = (0, 6, 10) := by decide +kernel
theorem r0_f : leftS R0 6 10 = 0 := by decide +kernel
theorem f_a : ([7] : List UInt8) ++ leB 258 2 = [7, 2, 1] := by decide +kernel
theorem f_b : ([7, 2, 1] : List UInt8) ++ vF 9 1201 = [7, 2, 1, 177, 9] := by decide +kernel
theorem f_c : (vF 9 1201).length = 2 := by decide +kernel
theorem Put16_first (A : Option Addr) (n c : Nat) (w : World) (h : RB w A n c [7]) (hn : n ≤ 100) :
    Calls Tryz.prog 71 #[.slice A n c, .int .u16 258] w fun e w' => ∃ g m c', e = .returned (.slice (some ⟨g, 0, none⟩) m c') ∧ OB w' g m c' [7, 2, 1] ∧ Below w.heap.size w w' := by
  refine (Put16_calls A n c [7] 258 w h (by omega) (by decide)).mono ?_
  rintro e w' ⟨g, c', rfl, _, o, b⟩
  rw [f_a] at o
  exact ⟨g, _, c', rfl, o, b⟩
theorem PutV_first (A : Option Addr) (n c : Nat) (w : World) (h : RB w A n c [7, 2, 1]) (hn : n ≤ 100) :
    Calls Tryz.prog 72 #[.slice A n c, .int .u64 1201] w fun e w' => ∃ g m c', e = .returned (.slice (some ⟨g, 0, none⟩) m c') ∧ OB w' g m c' [7, 2, 1, 177, 9] ∧ Below w.heap.size w w' := by
  refine (PutV_calls A n c [7, 2, 1] 1201 w h (by omega) (by omega)).mono ?_
  rintro e w' ⟨g, m, c', rfl, _, o, b⟩
  rw [f_b] at o
  exact ⟨g, _, c', rfl, o, b⟩
theorem VLen_first (w : World) : Calls Tryz.prog 73 #[.int .u64 1201] w fun e w' => e = .returned (.int .i64 2) ∧ w = w' := by
  have := VLen_calls 1201 w (by omega)
  rw [f_c] at this
  exact this

set_option maxRecDepth 100000 in
set_option maxHeartbeats 4000000 in
theorem first_calls (w : World) :
    Calls Tryz.prog 21 #[] w fun en w' => en = .returned (.bool true) ∧ Below w.heap.size w w' := by
  have l1 := lit_read w [7] 1 (0, 0) 5 rfl (by decide)
  have b1 := below1 w (.cells (u8s [7]).toArray 5)
  rw [show (u8s [7]).toArray = #[.int .u8 7] from rfl] at l1 b1
  go_enter Tryz.func21, Tryz.ntmps21
  go_upto_region 2 with (go_at_call 71; refine (Put16_first _ _ _ _ l1 (by decide)).mono ?_; rintro en w2 ⟨g2, m2, d2, rfl, o2, x2⟩)
  have b2 := b1.trans (x2.mono (by simp))
  have hm2 : m2 ≤ 100 := by have := o2.len; simp at this; omega
  clear l1 b1 x2
  go_upto_region 3 with (go_at_call 72; refine (PutV_first _ _ _ _ o2.read hm2).mono ?_; rintro en w3 ⟨g3, m3, d3, rfl, o3, x3⟩)
  have b3 := b2.trans (x3.mono b2.size)
  clear b2 o2 x3
  have l4 := lit_read w3 [7, 2, 1, 177, 9] 5 (0, 0) 5 rfl (by decide)
  have x4 := below1 w3 (.cells (u8s [7, 2, 1, 177, 9]).toArray 5)
  rw [show (u8s [7, 2, 1, 177, 9]).toArray = #[.int .u8 7, .int .u8 2, .int .u8 1, .int .u8 177, .int .u8 9] from rfl] at l4 x4
  have r4 := o3.read.below x4
  have b4 := b3.trans (x4.mono b3.size)
  clear x4 o3 b3
  go_upto_region 4 with (go_at_call 12; refine (SameBytes_calls _ _ _ _ _ _ _ _ _ r4 l4 true (by decide)).mono ?_; rintro en w5 ⟨rfl, rfl⟩)
  clear r4 l4
  generalize w3.alloc (.cells #[.int .u8 7, .int .u8 2, .int .u8 1, .int .u8 177, .int .u8 9] 5) = w4 at *
  generalize w3.heap.size = h4 at *
  clear w3 w2
  have l5 := lit_read w4 R0 7 (0, 0) 5 rfl (by decide)
  have x5 := below1 w4 (.cells (u8s R0).toArray 5)
  rw [show (u8s R0).toArray = #[.int .u8 2, .int .u8 1, .int .u8 177, .int .u8 9, .int .u8 3, .int .u8 4, .int .u8 5] from rfl] at l5 x5
  have b5 := b4.trans (x5.mono b4.size)
  go_upto_region 7 with (first
    | (go_at_call 73; refine (VLen_first _).mono ?_; rintro en w7 ⟨rfl, rfl⟩)
    | (go_at_call 23; refine (NewReader_calls _ _ _ _ _ l5 (by omega)).mono ?_; rintro en w6 ⟨g, rfl, s6, d6, x6⟩))
  have b6 := b5.trans (x6.mono b5.size)
  have gw : w.heap.size ≤ g := Nat.le_trans b5.size s6
  clear x6 s6 l5 x5 b5 b4
  have G := Get16_any g R0 0 0 w6 d6
  rw [r0_a] at G
  go_upto_region 8 with (go_at_call 74; refine G.mono ?_; rintro en w7 ⟨rfl, d7, gr7⟩)
  have b7 := b6.grown gr7 b6.size (by simpa using gw)
  clear G d6 gr7 b6
  have G := V_any g R0 2 0 w7 d7
  rw [r0_b] at G
  go_upto_region 9 with (go_at_call 75; refine G.mono ?_; rintro en w8 ⟨rfl, d8, gr8⟩)
  have b8 := b7.grown gr8 b7.size (by simpa using gw)
  clear G d7 gr8 b7
  have G := Bytes_any g R0 4 0 2 w8 d8 (by omega)
  rw [r0_c] at G
  go_upto_region 10 with (go_at_call 26; refine G.mono ?_; rintro en w9 ⟨gb, m9, rfl, s9, o9, d9, gr9⟩)
  obtain rfl : 2 = m9 := o9.len
  have b9 := b8.grown gr9 b8.size (by simpa using gw)
  clear G d8 gr9 b8 s9
  have G := Left_calls g R0 6 0 w9 d9
  rw [r0_d] at G
  go_upto_region 11 with (go_at_call 27; refine G.mono ?_; rintro en wx ⟨rfl, j9, rfl⟩)
  have b10 := below_drewN b9 j9
  have o10 : OB (w9.drewN j9) gb 2 2 [3, 4] := o9.same rfl
  have d10 := d9.drewN j9
  clear G d9 o9 b9
  have G := Get16_any g R0 6 0 (w9.drewN j9) d10
  rw [r0_e] at G
  go_upto_region 12 with (go_at_call 74; refine G.mono ?_; rintro en w11 ⟨rfl, d11, gr11⟩)
  have b11 := b10.grown gr11 b10.size (by simpa using gw)
  have o11 := o10.beside gr11 d10
  clear G d10 gr11 b10 o10
  have G := Err_calls g R0 6 10 w11 d11
  go_upto_region 13 with (go_at_call 76; refine G.mono ?_; rintro en wx ⟨rfl, j11, rfl⟩)
  have b12 := below_drewN b11 j11
  have o12 : OB (w11.drewN j11) gb 2 2 [3, 4] := o11.same rfl
  have d12 := d11.drewN j11
  clear G d11 o11 b11
  have G := Left_calls g R0 6 10 (w11.drewN j11) d12
  rw [r0_f] at G
  have y0 : (w11.drewN j11).cell? ⟨gb, 0, none⟩ = some (.int .u8 3) := o12.cell 0 (by decide)
  have y1 : (w11.drewN j11).cell? ⟨gb, 1, none⟩ = some (.int .u8 4) := o12.cell 1 (by decide)
  generalize w11.drewN j11 = w12 at *
  go_wp2_with (first
    | (go_at_call 27; refine G.mono ?_; rintro en wx ⟨rfl, j13, rfl⟩)
    | (go_at_call 77; refine (num_calls _ _).mono ?_; rintro en wx ⟨rfl, rfl⟩))
  go_ret
  exact ⟨rfl, below_drewN b12 j13⟩
end Go.Proofs.YtmeakhiiebeneaaGreatDoor
