/- coppicelaw7.first. -/
import Derived.Test.YtenalocpmigppaaGreatDoorMk
import Derived.Test.YtenalocpmigppaaGreatDoorMd
namespace Go.Proofs.YtenalocpmigppaaGreatDoor
open Go.RowKit

theorem decV_body (v n r h k f e : Nat) (hm : mayB v n r h k f e = true) : decV (bodyB v n r h k f e) = .agg #[.int .i64 v, .int .i64 n, .int .i64 r, .int .i64 h, .int .i64 k, .int .i64 f, .int .i64 e] ∧ decC (bodyB v n r h k f e) = 0 := by
  have b := mayB_bounds hm
  have p4 : 256 ^ 4 = 4294967296 := by decide
  have p8 : 256 ^ 8 = 18446744073709551616 := by decide
  unfold decV decC
  rw [decOk_body v n r h k f e hm, numAt_v _ _ _ _ _ _ _ (by omega), numAt_n _ _ _ _ _ _ _ (by omega), numAt_r _ _ _ _ _ _ _ (by omega), numAt_h _ _ _ _ _ _ _ (by omega), numAt_k _ _ _ _ _ _ _ (by omega), numAt_f _ _ _ _ _ _ _ (by omega), numAt_e _ _ _ _ _ _ _ (by omega)]
  exact ⟨rfl, rfl⟩
theorem Decode_body (v n r h k f e : Nat) (hm : mayB v n r h k f e = true) (A : Option Addr) (m c : Nat) (w : World) (hx : RB w A m c (bodyB v n r h k f e)) (hM : Marks w) :
    Calls Tryz.prog 35 #[.slice A m c] w fun en w' => en = .returned (.tuple #[.agg #[.int .i64 v, .int .i64 n, .int .i64 r, .int .i64 h, .int .i64 k, .int .i64 f, .int .i64 e], .int .i64 0]) ∧ Below w.heap.size w w' := by
  have := Decode_any A m c _ w hx hM
  rwa [(decV_body v n r h k f e hm).1, (decV_body v n r h k f e hm).2] at this

def fst : List UInt8 := bodyB 258 300 7 2 1000 299 3
def want37 : List UInt8 := [5, 0x63, 0x6f, 0x70, 2, 1, 0, 0, 0, 0, 0, 0, 0x2c, 1, 0, 0, 7, 0, 0, 0, 2, 0xe8, 3, 0, 0, 0, 0, 0, 0, 0x2b, 1, 0, 0, 3, 0, 0, 0]
theorem fst_take : fst.take 37 = want37 := by
  have e : headB 258 300 7 2 1000 299 3 = want37 := by decide
  unfold fst bodyB
  rw [List.append_assoc, ← e]
  exact List.take_left' (headB_length _ _ _ _ _ _ _)
theorem fst_drop : fst.drop 4087 = [0, 101, 110, 100, 46] := by
  have e : fst = (headB 258 300 7 2 1000 299 3 ++ zeros 4050) ++ [0, 101, 110, 100, 46] := by
    unfold fst bodyB
    rw [show zeros 4051 = zeros 4050 ++ [0] from List.replicate_succ', ← List.append_assoc, List.append_assoc _ [0]]
    rfl
  rw [e]
  exact List.drop_left' (by rw [List.length_append, headB_length, zeros_length])
theorem fst_may : mayB (258 : Nat) (300 : Nat) (7 : Nat) (2 : Nat) (1000 : Nat) (299 : Nat) (3 : Nat) = true := by decide +kernel
theorem newer45 : newer 4 5 true true = 1 := by decide

theorem Encode_first (w : World) (hM : Marks w) :
    Calls Tryz.prog 33 #[.agg #[.int .i64 258, .int .i64 300, .int .i64 7, .int .i64 2, .int .i64 1000, .int .i64 299, .int .i64 3]] w fun en w' => ∃ g, en = .returned (.tuple #[.slice (some ⟨g, 0, none⟩) 4092 4092, .int .i64 0]) ∧ OB w' g 4092 4092 fst ∧ Below w.heap.size w w' := by
  refine (Encode_ok 258 300 7 2 1000 299 3 w (hideIt (by decide)) (hideIt (by decide)) (hideIt (by decide)) (hideIt (by decide)) (hideIt (by decide)) (hideIt (by decide)) (hideIt (by decide)) fst_may hM).mono ?_
  rintro en w' ⟨g, rfl, _, o, b⟩
  exact ⟨g, rfl, o, b⟩
theorem Decode_first (A : Option Addr) (m c : Nat) (w : World) (hx : RB w A m c fst) (hM : Marks w) :
    Calls Tryz.prog 35 #[.slice A m c] w fun en w' => en = .returned (.tuple #[.agg #[.int .i64 258, .int .i64 300, .int .i64 7, .int .i64 2, .int .i64 1000, .int .i64 299, .int .i64 3], .int .i64 0]) ∧ Below w.heap.size w w' :=
  Decode_body 258 300 7 2 1000 299 3 fst_may A m c w hx hM
theorem Encode_zero (w : World) :
    Calls Tryz.prog 33 #[.agg #[.int .i64 0, .int .i64 0, .int .i64 0, .int .i64 0, .int .i64 0, .int .i64 0, .int .i64 0]] w fun en w' => en = .returned (.tuple #[.slice none 0 0, .int .i64 71]) ∧ Below w.heap.size w w' :=
  Encode_no 0 0 0 0 0 0 0 w (by unfold I64; omega) mayB_zero
theorem Newer_first (w : World) :
    Calls Tryz.prog 66 #[.agg #[.int .i64 4, .int .i64 0, .int .i64 0, .int .i64 0, .int .i64 0, .int .i64 0, .int .i64 0], .agg #[.int .i64 5, .int .i64 0, .int .i64 0, .int .i64 0, .int .i64 0, .int .i64 0, .int .i64 0], .bool true, .bool true] w fun en w' => en = .returned (.int .i64 1) ∧ Below w.heap.size w w' := by
  have := Newer_calls 4 0 0 0 0 0 0 5 0 0 0 0 0 0 true true w
  rwa [newer45] at this

set_option maxRecDepth 100000 in
set_option maxHeartbeats 4000000 in
theorem first_calls (w : World) (hM : Marks w) :
    Calls Tryz.prog 32 #[] w fun en w' => en = .returned (.bool true) ∧ Below w.heap.size w w' := by
  have hb1 := below1 w (.cells #[.int .i64 258, .int .i64 300, .int .i64 7, .int .i64 2, .int .i64 1000, .int .i64 299, .int .i64 3] 66)
  have q1 := (HC.new w 258 300 7 2 1000 299 3).at_
  go_enter Tryz.func32, Tryz.ntmps32
  go_upto_region 2 with fail
  generalize w.alloc (.cells #[.int .i64 258, .int .i64 300, .int .i64 7, .int .i64 2, .int .i64 1000, .int .i64 299, .int .i64 3] 66) = w1 at *
  obtain ⟨i0, i1, i2, i3, i4, i5, i6, i7⟩ := q1
  have q1 : HdAt w1 w.heap.size 258 300 7 2 1000 299 3 := ⟨i0, i1, i2, i3, i4, i5, i6, i7⟩
  go_upto_region 3 with (go_at_call 33; refine (Encode_first _ (hM.below hb1)).mono ?_; rintro en w2 ⟨g, rfl, o2, x2⟩)
  have q2 := q1.below x2
  have b2 := hb1.trans (x2.mono hb1.size)
  have r2 := o2.read
  clear i0 i1 i2 i3 i4 i5 i6 i7 q1 x2 hb1 o2 w1
  go_upto_region 4 with fail
  have l3 := lit_read w2 want37 37 (0, 0) 5 rfl (by decide)
  have x3 := below1 w2 (.cells (u8s want37).toArray 5)
  rw [show (u8s want37).toArray = #[.int .u8 5, .int .u8 99, .int .u8 111, .int .u8 112, .int .u8 2, .int .u8 1, .int .u8 0, .int .u8 0, .int .u8 0, .int .u8 0, .int .u8 0, .int .u8 0, .int .u8 44, .int .u8 1, .int .u8 0, .int .u8 0, .int .u8 7, .int .u8 0, .int .u8 0, .int .u8 0, .int .u8 2, .int .u8 232, .int .u8 3, .int .u8 0, .int .u8 0, .int .u8 0, .int .u8 0, .int .u8 0, .int .u8 0, .int .u8 43, .int .u8 1, .int .u8 0, .int .u8 0, .int .u8 3, .int .u8 0, .int .u8 0, .int .u8 0] from rfl] at l3 x3
  have q3 := q2.below x3
  have r3 := r2.below x3
  have b3 := b2.trans (x3.mono b2.size)
  generalize w2.alloc (.cells #[.int .u8 5, .int .u8 99, .int .u8 111, .int .u8 112, .int .u8 2, .int .u8 1, .int .u8 0, .int .u8 0, .int .u8 0, .int .u8 0, .int .u8 0, .int .u8 0, .int .u8 44, .int .u8 1, .int .u8 0, .int .u8 0, .int .u8 7, .int .u8 0, .int .u8 0, .int .u8 0, .int .u8 2, .int .u8 232, .int .u8 3, .int .u8 0, .int .u8 0, .int .u8 0, .int .u8 0, .int .u8 0, .int .u8 0, .int .u8 43, .int .u8 1, .int .u8 0, .int .u8 0, .int .u8 3, .int .u8 0, .int .u8 0, .int .u8 0] 5) = w3 at *
  clear x3 q2 r2 b2
  generalize w2.heap.size = g3 at *
  clear w2
  have t3 := r3.take 37 (by decide)
  rw [fst_take] at t3
  go_upto_region 7 with (first
    | (go_at_call 21; refine (SameBytes_calls _ _ _ _ _ _ _ _ _ t3 l3 true (by decide)).mono ?_; rintro en w4 ⟨rfl, rfl⟩)
    | (go_at_call 34; refine (num_calls _ _).mono ?_; rintro en w4 ⟨rfl, rfl⟩))
  clear t3 l3
  have l4 := lit_read w3 [0, 101, 110, 100, 46] 5 (0, 0) 5 rfl (by decide)
  have x4 := below1 w3 (.cells (u8s [0, 101, 110, 100, 46]).toArray 5)
  rw [show (u8s [0, 101, 110, 100, 46]).toArray = #[.int .u8 0, .int .u8 101, .int .u8 110, .int .u8 100, .int .u8 46] from rfl] at l4 x4
  have q4 := q3.below x4
  have r4 := r3.below x4
  have b4 := b3.trans (x4.mono b3.size)
  have t4 : RB (w3.alloc (.cells #[.int .u8 0, .int .u8 101, .int .u8 110, .int .u8 100, .int .u8 46] 5)) (some ⟨g, 4087, none⟩) 5 5 [0, 101, 110, 100, 46] := by
    have h2 := r4.cut (A' := some ⟨g, 4087, none⟩) 4087 4092 4092 (by omega) (Nat.le_refl _) (Nat.le_refl _) (Nat.le_refl _) (fun _ => by simp [Addr.add]) (fun e => by cases e)
    rw [fst_drop] at h2
    exact h2
  clear x4 q3 r3 b3
  go_upto_region 8 with (go_at_call 21; refine (SameBytes_calls _ _ _ _ _ _ _ _ _ t4 l4 true (by decide)).mono ?_; rintro en w5 ⟨rfl, rfl⟩)
  clear l4 t4
  generalize w3.alloc (.cells #[.int .u8 0, .int .u8 101, .int .u8 110, .int .u8 100, .int .u8 46] 5) = w4 at *
  generalize w3.heap.size = g5 at *
  clear w3
  go_upto_region 9 with (go_at_call 35; refine (Decode_first _ _ _ _ r4 (hM.below b4)).mono ?_; rintro en w5 ⟨rfl, x5⟩)
  have x6 := x5.trans ((below1 w5 (.cells #[.int .i64 258, .int .i64 300, .int .i64 7, .int .i64 2, .int .i64 1000, .int .i64 299, .int .i64 3] 66)).mono x5.size)
  have q6 := q4.below x6
  have q7 := (HC.new w5 258 300 7 2 1000 299 3).at_
  have b6 := b4.trans (x6.mono b4.size)
  clear x5 x6 q4 r4 b4
  generalize w5.alloc (.cells #[.int .i64 258, .int .i64 300, .int .i64 7, .int .i64 2, .int .i64 1000, .int .i64 299, .int .i64 3] 66) = w6 at *
  generalize w5.heap.size = g7 at *
  clear w5 w4
  obtain ⟨i0, i1, i2, i3, i4, i5, i6, i7⟩ := q6
  obtain ⟨j0, j1, j2, j3, j4, j5, j6, j7⟩ := q7
  go_upto_region 10 with (go_at_call 36; refine (SameHead_calls _ _ _ _ _ _ _ _).mono ?_; rintro en w7 ⟨rfl, x7⟩)
  have b7 := b6.trans (x7.mono b6.size)
  clear i0 i1 i2 i3 i4 i5 i6 i7 j0 j1 j2 j3 j4 j5 j6 j7 x7 b6
  go_upto_region 11 with (go_at_call 33; refine (Encode_zero _).mono ?_; rintro en w8 ⟨rfl, x8⟩)
  have b8 := b7.trans (x8.mono b7.size)
  clear x8 b7 w7 w6
  go_wp2_with (first
    | (go_at_call 66; refine (Newer_first _).mono ?_; rintro en w9 ⟨rfl, x9⟩; have b9 := b8.trans (x9.mono b8.size))
    | (go_at_call 34; refine (num_calls _ _).mono ?_; rintro en w9 ⟨rfl, rfl⟩))
  go_ret
  exact ⟨rfl, b9⟩
end Go.Proofs.YtenalocpmigppaaGreatDoor
