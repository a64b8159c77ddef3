/- The walks of the laws MetaEncodes, MetaDecodes, MetaNewers. -/
import Derived.Test.YtgajlippppebpaaDoorMl
import Derived.Test.YtgajlippppebpaaDoorTurn
namespace Go.Proofs.YtgajlippppebpaaDoor
open Go.RowKit

set_option maxRecDepth 100000 in
set_option maxHeartbeats 4000000 in
theorem MetaEncodes_walk (v n r h k f e : Int) (w : World) (hq : I64 v ∧ I64 n ∧ I64 r ∧ I64 h ∧ I64 k ∧ I64 f ∧ I64 e) (hM : Marks w) :
    Calls Tryd.prog 3 #[.agg #[.int .i64 v, .int .i64 n, .int .i64 r, .int .i64 h, .int .i64 k, .int .i64 f, .int .i64 e]] w fun en w' => en = .returned (.bool true) ∧ Below w.heap.size w w' := by
  have hb1 := below1 w (.cells #[.int .i64 v, .int .i64 n, .int .i64 r, .int .i64 h, .int .i64 k, .int .i64 f, .int .i64 e] 23)
  have q1 := (HC.new w v n r h k f e).at_
  have n8 := hq.2.1
  clear hq
  go_enter Tryd.func3, Tryd.ntmps3
  go_upto_region 1 with fail
  generalize w.alloc (.cells #[.int .i64 v, .int .i64 n, .int .i64 r, .int .i64 h, .int .i64 k, .int .i64 f, .int .i64 e] 23) = w1 at *
  go_upto_region 2 with (go_at_call 10; refine (first_calls _ (hM.below hb1)).mono ?_; rintro en w2 ⟨rfl, x2⟩)
  have q2 := q1.below x2
  have b2 := hb1.trans (x2.mono hb1.size)
  clear x2 q1 hb1 w1
  obtain ⟨i0, i1, i2, i3, i4, i5, i6, i7⟩ := q2
  have q2 : HdAt w2 w.heap.size v n r h k f e := ⟨i0, i1, i2, i3, i4, i5, i6, i7⟩
  go_upto_region 3 with (go_at_call 11; refine (Encode_any _ _ _ _ _ _ _ _ n8 (hM.below b2)).mono ?_; rintro en w3 ⟨A3, n3, c3, rfl, r3, x3⟩)
  have q3 := q2.below x3
  have b3 := b2.trans (x3.mono b2.size)
  clear x3 q2 b2 i0 i1 i2 i3 i4 i5 i6 i7 w2
  obtain ⟨i0, i1, i2, i3, i4, i5, i6, i7⟩ := q3
  go_upto_region 4 with (go_at_call 12; refine (refEncode_any _ _ _ _ _ _ _ _).mono ?_; rintro en w4 ⟨A4, n4, c4, rfl, r4, x4⟩)
  have b4 := b3.trans (x4.mono b3.size)
  have r34 := r3.below x4
  clear x4 r3 b3 i0 i1 i2 i3 i4 i5 i6 i7 w3
  go_wp2_with (first
    | (go_at_call 14; refine (num_calls _ _).mono ?_; rintro en w9 ⟨rfl, rfl⟩)
    | (go_at_call 13; refine (SameBytes_calls _ _ _ _ _ _ _ _ _ r34 r4 true (by simp)).mono ?_; rintro en w5 ⟨rfl, rfl⟩))
  go_ret
  exact ⟨rfl, b4⟩

theorem decV_agg (xs : List UInt8) : ∃ v n r h k f e : Int, decV xs = .agg #[.int .i64 v, .int .i64 n, .int .i64 r, .int .i64 h, .int .i64 k, .int .i64 f, .int .i64 e] ∧ I64 n := by
  unfold decV headV
  cases decOk xs
  · exact ⟨_, _, _, _, _, _, _, rfl, by unfold I64; omega⟩
  · have := numAt_lt4 xs 12
    exact ⟨_, _, _, _, _, _, _, rfl, by unfold I64; omega⟩

set_option maxRecDepth 100000 in
set_option maxHeartbeats 4000000 in
theorem decodes_calls (g N c n : Nat) (ys : List UInt8) (w : World) (hx : RB w (some ⟨g, 0, none⟩) N c ys) (hn : n ≤ N) (hN : N ≤ 70000) (hM : Marks w) :
    Calls Tryd.prog 16 #[.slice (some ⟨g, 0, none⟩) N c, .int .i64 (n : Int)] w fun en w' => en = .returned (.bool true) ∧ Below w.heap.size w w' := by
  obtain ⟨v, m, r, h, k, f, e, hd, -⟩ := decV_agg (ys.take n)
  have hc := RC.le hx
  have i1 : (n : Int) ≤ N := by omega
  have i2 : (N : Int) ≤ c := by omega
  have i3 : (n : Int) ≤ c := by omega
  go_enter Tryd.func16, Tryd.ntmps16
  go_upto_region 2 with (go_at_call 15; refine (Bytes_calls _ _ _ _ _ hx (by omega)).mono ?_; rintro en w1 ⟨g1, c1, rfl, s1, o1, x1⟩)
  have h1 := hx.below x1
  have f1 := h1.front hn
  have D := Decode_any _ _ _ _ w1 f1 (hM.below x1)
  rw [hd] at D
  go_upto_region 3 with (go_at_call 19; refine D.mono ?_; rintro en w2 ⟨rfl, x2⟩)
  have y2 := below1 w2 (.cells #[.int .i64 v, .int .i64 m, .int .i64 r, .int .i64 h, .int .i64 k, .int .i64 f, .int .i64 e] 23)
  have q3 := (HC.new w2 v m r h k f e).at_
  have x3 := x2.trans (y2.mono x2.size)
  have b3 := x1.trans (x3.mono x1.size)
  have o3 := o1.below x3
  have h3 := h1.below x3
  clear D f1 h1 o1 x1 x2 x3 y2 s1
  generalize w2.alloc (.cells #[.int .i64 v, .int .i64 m, .int .i64 r, .int .i64 h, .int .i64 k, .int .i64 f, .int .i64 e] 23) = w3 at *
  generalize w2.heap.size = g3 at *
  clear w2 w1
  have t3 := o3.read.take n hn
  have D := refDecode_any _ _ _ _ w3 t3
  rw [hd] at D
  have hcc := OC.le o3
  have i4 : (n : Int) ≤ c1 := by omega
  go_upto_region 5 with (first
    | (go_at_call 27; refine D.mono ?_; rintro en w4 ⟨rfl, x4⟩)
    | (go_at_call 13; refine (SameBytes_calls _ _ _ _ _ _ _ _ _ h3 o3.read true (by simp)).mono ?_; rintro en w5 ⟨rfl, rfl⟩))
  have y4 := below1 w4 (.cells #[.int .i64 v, .int .i64 m, .int .i64 r, .int .i64 h, .int .i64 k, .int .i64 f, .int .i64 e] 23)
  have q5 := (HC.new w4 v m r h k f e).at_
  have x5 := x4.trans (y4.mono x4.size)
  have b5 := b3.trans (x5.mono b3.size)
  have q3' := q3.below x5
  clear D t3 x4 x5 y4 b3 h3 o3 q3
  generalize w4.alloc (.cells #[.int .i64 v, .int .i64 m, .int .i64 r, .int .i64 h, .int .i64 k, .int .i64 f, .int .i64 e] 23) = w5 at *
  generalize w4.heap.size = g5 at *
  clear w4 w3
  obtain ⟨i0, i1, i2, i3, i4, i5, i6, i7⟩ := q3'
  obtain ⟨j0, j1, j2, j3, j4, j5, j6, j7⟩ := q5
  go_upto_region 6 with (go_at_call 20; refine (SameHead_calls _ _ _ _ _ _ _ _).mono ?_; rintro en w7 ⟨rfl, x7⟩)
  have b7 := b5.trans (x7.mono b5.size)
  clear i0 i1 i2 i3 i4 i5 i6 i7 j0 j1 j2 j3 j4 j5 j6 j7 x7 b5
  go_wp2_with (go_at_call 14; refine (num_calls _ _).mono ?_; rintro en w9 ⟨rfl, rfl⟩)
  go_ret
  exact ⟨rfl, b7⟩
end Go.Proofs.YtgajlippppebpaaDoor
