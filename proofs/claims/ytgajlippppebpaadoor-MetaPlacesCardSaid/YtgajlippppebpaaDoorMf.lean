/- coppiceref7.Encode. -/
import Derived.Test.YtgajlippppebpaaDoorMc
import Derived.Test.YtgajlippppebpaaDoorMp
import Derived.Test.YtgajlippppebpaaDoorWq
import Derived.Test.YtgajlippppebpaaDoorLit
namespace Go.Proofs.YtgajlippppebpaaDoor
open Go.RowKit

/-- A head in a block. -/
structure HdAt (w : World) (g : Nat) (v n r h k f e : Int) : Prop where
  c0 : w.cell? ⟨g, 0, none⟩ = some (.int .i64 v)
  c1 : w.cell? ⟨g, 1, none⟩ = some (.int .i64 n)
  c2 : w.cell? ⟨g, 2, none⟩ = some (.int .i64 r)
  c3 : w.cell? ⟨g, 3, none⟩ = some (.int .i64 h)
  c4 : w.cell? ⟨g, 4, none⟩ = some (.int .i64 k)
  c5 : w.cell? ⟨g, 5, none⟩ = some (.int .i64 f)
  c6 : w.cell? ⟨g, 6, none⟩ = some (.int .i64 e)
  lt : g < w.heap.size
theorem HdAt.below {w w' : World} {g : Nat} {v n r h k f e : Int} (q : HdAt w g v n r h k f e) (b : Below w.heap.size w w') : HdAt w' g v n r h k f e :=
  ⟨(b.cell (p := ⟨g, 0, none⟩) q.lt).trans q.c0, (b.cell (p := ⟨g, 1, none⟩) q.lt).trans q.c1, (b.cell (p := ⟨g, 2, none⟩) q.lt).trans q.c2, (b.cell (p := ⟨g, 3, none⟩) q.lt).trans q.c3,
   (b.cell (p := ⟨g, 4, none⟩) q.lt).trans q.c4, (b.cell (p := ⟨g, 5, none⟩) q.lt).trans q.c5, (b.cell (p := ⟨g, 6, none⟩) q.lt).trans q.c6, Nat.lt_of_lt_of_le q.lt b.size⟩
theorem HdAt.new (w : World) (t : TypeId) (v n r h k f e : Int) : HdAt (w.alloc (.cells #[.int .i64 v, .int .i64 n, .int .i64 r, .int .i64 h, .int .i64 k, .int .i64 f, .int .i64 e] t)) w.heap.size v n r h k f e :=
  ⟨by simp, by simp, by simp, by simp, by simp, by simp, by simp, by simp⟩

/-- The document's Put, the length told. -/
theorem refPut_to (l : Nat) (A : Option Addr) (n c : Nat) (xs : List UInt8) (x W : Nat) (w : World) (hx : RB w A n c xs) (hl : n + W = l) (hb : n ≤ 140737488351232) (hW : W ≤ 8) (hxx : Hid (x < 9223372036854775808)) :
    Calls Tryd.prog 26 #[.slice A n c, .int .u64 (x : Int), .int .i64 (W : Int)] w fun e w' => ∃ g c', e = .returned (.slice (some ⟨g, 0, none⟩) l c') ∧ w.heap.size ≤ g ∧ OB w' g l c' (xs ++ leB x W) ∧ Below w.heap.size w w' := by
  subst hl
  have := hxx.out
  exact refPut_calls A n c xs x W w hx hb hW (by omega)

set_option maxRecDepth 100000 in
set_option maxHeartbeats 4000000 in
theorem refEncode_ok (v n r h k f e : Nat) (w : World) (hv : Hid (v < 9223372036854775808)) (hn : Hid (n < 9223372036854775808)) (hr : Hid (r < 9223372036854775808)) (hh : Hid (h < 9223372036854775808)) (hk : Hid (k < 9223372036854775808)) (hf : Hid (f < 9223372036854775808)) (he : Hid (e < 9223372036854775808)) (hm : mayB v n r h k f e = true) :
    Calls Tryd.prog 12 #[.agg #[.int .i64 v, .int .i64 n, .int .i64 r, .int .i64 h, .int .i64 k, .int .i64 f, .int .i64 e]] w fun en w' => ∃ g c, en = .returned (.tuple #[.slice (some ⟨g, 0, none⟩) 4092 c, .int .i64 0]) ∧ w.heap.size ≤ g ∧ OB w' g 4092 c (bodyB v n r h k f e) ∧ Below w.heap.size w w' := by
  have HM := hideIt hm
  clear hm
  have v1 : IntKind.u64.wrap (v : Int) = (v : Int) := by have := hv.out; rw [IntKind.wrap_u64]; omega
  have v2 : IntKind.u64.wrap (n : Int) = (n : Int) := by have := hn.out; rw [IntKind.wrap_u64]; omega
  have v3 : IntKind.u64.wrap (r : Int) = (r : Int) := by have := hr.out; rw [IntKind.wrap_u64]; omega
  have v4 : IntKind.u64.wrap (h : Int) = (h : Int) := by have := hh.out; rw [IntKind.wrap_u64]; omega
  have v5 : IntKind.u64.wrap (k : Int) = (k : Int) := by have := hk.out; rw [IntKind.wrap_u64]; omega
  have v6 : IntKind.u64.wrap (f : Int) = (f : Int) := by have := hf.out; rw [IntKind.wrap_u64]; omega
  have v7 : IntKind.u64.wrap (e : Int) = (e : Int) := by have := he.out; rw [IntKind.wrap_u64]; omega
  go_enter Tryd.func12, Tryd.ntmps12
  go_upto_region 4 with (go_at_call 21; refine (refMay_calls _ _ _ _ _ _ _ _).mono ?_; rintro en w0 ⟨rfl, x0⟩; rw [HM.out]; have b0 := below1 w (.cells #[.int .i64 v, .int .i64 n, .int .i64 r, .int .i64 h, .int .i64 k, .int .i64 f, .int .i64 e] 23))
  have q0 := (HdAt.new w 23 v n r h k f e).below x0
  replace b0 := b0.trans (x0.mono (by simp))
  clear x0
  go_upto_region 5 with fail
  have b1 := below1 w0 (.cells (u8s [5, 99, 111, 112]).toArray 5)
  have o1 := lit_read w0 [5, 99, 111, 112] 4 (0, 0) 5 rfl (by decide)
  have q1 := q0.below b1
  replace b1 := b0.trans (b1.mono b0.size)
  rw [show (u8s [5, 99, 111, 112]).toArray = #[.int .u8 5, .int .u8 99, .int .u8 111, .int .u8 112] from rfl] at o1 q1 b1
  generalize hw1 : w0.alloc (.cells #[.int .u8 5, .int .u8 99, .int .u8 111, .int .u8 112] 5) = w1 at o1 q1 b1 ⊢
  clear hw1 b0 q0
  generalize hg1 : w0.heap.size = g1 at o1 ⊢
  clear hg1 w0
  have a1 := q1.c0
  go_upto_region 6 with (go_at_call 26; refine (refPut_to 12 _ _ _ _ v 8 _ o1 rfl (by omega) (by omega) hv).mono ?_; rintro en w2 ⟨g2, d2, rfl, s2, o2, x2⟩)
  have q2 := q1.below x2
  replace s2 := Nat.le_trans b1.size s2
  have b2 := b1.trans (x2.mono b1.size)
  clear x2 a1 q1 b1 o1
  have a2 := q2.c1
  go_upto_region 7 with (go_at_call 26; refine (refPut_to 16 _ _ _ _ n 4 _ o2.read rfl (by omega) (by omega) hn).mono ?_; rintro en w3 ⟨g3, d3, rfl, s3, o3, x3⟩)
  have q3 := q2.below x3
  replace s3 := Nat.le_trans b2.size s3
  have b3 := b2.trans (x3.mono b2.size)
  clear x3 a2 q2 b2 o2 s2
  have a3 := q3.c2
  go_upto_region 8 with (go_at_call 26; refine (refPut_to 20 _ _ _ _ r 4 _ o3.read rfl (by omega) (by omega) hr).mono ?_; rintro en w4 ⟨g4, d4, rfl, s4, o4, x4⟩)
  have q4 := q3.below x4
  replace s4 := Nat.le_trans b3.size s4
  have b4 := b3.trans (x4.mono b3.size)
  clear x4 a3 q3 b3 o3 s3
  have a4 := q4.c3
  go_upto_region 9 with (go_at_call 26; refine (refPut_to 21 _ _ _ _ h 1 _ o4.read rfl (by omega) (by omega) hh).mono ?_; rintro en w5 ⟨g5, d5, rfl, s5, o5, x5⟩)
  have q5 := q4.below x5
  replace s5 := Nat.le_trans b4.size s5
  have b5 := b4.trans (x5.mono b4.size)
  clear x5 a4 q4 b4 o4 s4
  have a5 := q5.c4
  go_upto_region 10 with (go_at_call 26; refine (refPut_to 29 _ _ _ _ k 8 _ o5.read rfl (by omega) (by omega) hk).mono ?_; rintro en w6 ⟨g6, d6, rfl, s6, o6, x6⟩)
  have q6 := q5.below x6
  replace s6 := Nat.le_trans b5.size s6
  have b6 := b5.trans (x6.mono b5.size)
  clear x6 a5 q5 b5 o5 s5
  have a6 := q6.c5
  go_upto_region 11 with (go_at_call 26; refine (refPut_to 33 _ _ _ _ f 4 _ o6.read rfl (by omega) (by omega) hf).mono ?_; rintro en w7 ⟨g7, d7, rfl, s7, o7, x7⟩)
  have q7 := q6.below x7
  replace s7 := Nat.le_trans b6.size s7
  have b7 := b6.trans (x7.mono b6.size)
  clear x7 a6 q6 b6 o6 s6
  have a7 := q7.c6
  go_upto_region 12 with (go_at_call 26; refine (refPut_to 37 _ _ _ _ e 4 _ o7.read rfl (by omega) (by omega) he).mono ?_; rintro en w8 ⟨g8, d8, rfl, s8, o8, x8⟩)
  have q8 := q7.below x8
  replace s8 := Nat.le_trans b7.size s8
  have b8 := b7.trans (x8.mono b7.size)
  clear x8 a7 q7 b7 o7 s7
  clear q8
  go_loopw [5] (fun bb wr => ∃ (m g c' : Nat) (ys : List UInt8), m ≤ 4051 ∧ bb = .slice (some ⟨g, 0, none⟩) (37 + m) c' ∧ w.heap.size ≤ g ∧ OB wr g (37 + m) c' ys ∧ Hid (ys = headB v n r h k f e ++ zeros m) ∧ Below w.heap.size w wr)
    (fun bb _ => 5000 - lenOfS bb)
  case atStart => exact ⟨0, g8, d8, _, by omega, rfl, s8, o8, by unfold Hid headB zeros; simp, b8⟩
  case round =>
    obtain ⟨m, g, c', ys, hm, rfl, sg, og, HY, bw⟩ := hrel
    by_cases hlt : m < 4051
    · have H1 : Hid (ys ++ [0] = headB v n r h k f e ++ zeros (m + 1)) := by
        unfold Hid zeros
        rw [HY.out, List.append_assoc, List.replicate_succ', zeros]
      have i1 : (37 : Int) + (m : Int) < 4088 := by omega
      go_wp2_with (at_builtin; have o2 := og.below ((Below.refl _ _).alloc (Nat.le_refl _) (.cells (u8s [0]).toArray 5)); refine wpB_app rfl _ _ rfl _ _ _ _ rfl o2 _ _ _ [0] rfl (RB.lit wr [0] 1 rfl (by simp [maxLen])).read (37 + (m + 1)) (by omega) (by omega) ?_; intro g4 c4 w4 q4 p4 o4 k4; have lg := og.lt; have z4 := bw.size; have b4 := (bw.alloc z4 (.cells (u8s [0]).toArray 5)).grown k4 (by simp; omega) (by simp; omega))
      go_roundw
      case rel =>
        have q4' : g4 = g ∨ wr.heap.size + 1 ≤ g4 := by simpa using q4
        exact ⟨m + 1, g4, c4, _, by omega, rfl, by omega, o4, H1, b4⟩
      case measure => simp [lenOfS]; omega
    · obtain rfl : m = 4051 := by omega
      have HB : Hid (ys ++ [101, 110, 100, 46] = bodyB v n r h k f e) := by unfold Hid bodyB; rw [HY.out]
      go_wp2_with (at_builtin; have o2 := og.below ((Below.refl _ _).alloc (Nat.le_refl _) (.cells (u8s [101, 110, 100, 46]).toArray 5)); refine wpB_app rfl _ _ rfl _ _ _ _ rfl o2 _ _ _ [101, 110, 100, 46] rfl (RB.lit wr [101, 110, 100, 46] 4 rfl (by simp [maxLen])).read 4092 (by omega) (by omega) ?_; intro g4 c4 w4 q4 p4 o4 k4; have lg := og.lt; have z4 := bw.size; have b4 := (bw.alloc z4 (.cells (u8s [101, 110, 100, 46]).toArray 5)).grown k4 (by simp; omega) (by simp; omega))
      have q4' : g4 = g ∨ wr.heap.size + 1 ≤ g4 := by simpa using q4
      rw [HB.out] at o4
      go_ret2
      exact ⟨g4, c4, rfl, by omega, o4, b4⟩
end Go.Proofs.YtgajlippppebpaaDoor
