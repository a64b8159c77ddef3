/- meta.Encode of a head that may be. -/
import Derived.Test.YtenalocpmigppaaGreatDoorMf
import Derived.Test.YtenalocpmigppaaGreatDoorWu
import Derived.Laws.StructEq
import Derived.Test.YtenalocpmigppaaGreatDoorWk
namespace Go.Proofs.YtenalocpmigppaaGreatDoor
open Go.RowKit

/-- The marks of a head's body lie in the package's variables. -/
structure Marks (w : World) : Prop where
  b0 : w.cell? ⟨0, 0, none⟩ = some (.int .u8 5)
  b1 : w.cell? ⟨0, 1, none⟩ = some (.int .u8 99)
  b2 : w.cell? ⟨0, 2, none⟩ = some (.int .u8 111)
  b3 : w.cell? ⟨0, 3, none⟩ = some (.int .u8 112)
  e0 : w.cell? ⟨1, 0, none⟩ = some (.int .u8 101)
  e1 : w.cell? ⟨1, 1, none⟩ = some (.int .u8 110)
  e2 : w.cell? ⟨1, 2, none⟩ = some (.int .u8 100)
  e3 : w.cell? ⟨1, 3, none⟩ = some (.int .u8 46)
theorem Marks.below {w w' : World} (h : Marks w) (b : Below w.heap.size w w') : Marks w' := by
  have lb := World.block_lt_of_cell? w _ h.b0
  have le := World.block_lt_of_cell? w _ h.e0
  exact ⟨(b.cell (p := ⟨0, 0, none⟩) lb).trans h.b0, (b.cell (p := ⟨0, 1, none⟩) lb).trans h.b1, (b.cell (p := ⟨0, 2, none⟩) lb).trans h.b2, (b.cell (p := ⟨0, 3, none⟩) lb).trans h.b3,
    (b.cell (p := ⟨1, 0, none⟩) le).trans h.e0, (b.cell (p := ⟨1, 1, none⟩) le).trans h.e1, (b.cell (p := ⟨1, 2, none⟩) le).trans h.e2, (b.cell (p := ⟨1, 3, none⟩) le).trans h.e3⟩

set_option maxRecDepth 100000 in
set_option maxHeartbeats 4000000 in
theorem Encode_ok (v n r h k f e : Nat) (w : World) (hv : Hid (v < 256 ^ 8)) (hn : Hid (n < 256 ^ 4)) (hr : Hid (r < 256 ^ 4)) (hh : Hid (h < 256 ^ 1)) (hk : Hid (k < 256 ^ 8)) (hf : Hid (f < 256 ^ 4)) (he : Hid (e < 256 ^ 4)) (hm : mayB v n r h k f e = true) (hM : Marks w) :
    Calls Tryz.prog 33 #[.agg #[.int .i64 v, .int .i64 n, .int .i64 r, .int .i64 h, .int .i64 k, .int .i64 f, .int .i64 e]] w fun en w' => ∃ g, en = .returned (.tuple #[.slice (some ⟨g, 0, none⟩) 4092 4092, .int .i64 0]) ∧ w.heap.size ≤ g ∧ OB w' g 4092 4092 (bodyB v n r h k f e) ∧ Below w.heap.size w w' := by
  have hb := mayB_bounds hm
  have hz : ¬ v = 0 := by omega
  have hn8 : -9223372036854775808 ≤ (n : Int) ∧ (n : Int) ≤ 9223372036854775807 := by omega
  have HM := hideIt hm
  clear hm hb
  have v1 : IntKind.u64.wrap (v : Int) = (v : Int) := wrapu64_of v hv.out
  have v2 : IntKind.u32.wrap (n : Int) = (n : Int) := wrapu32_of n hn.out
  have v3 : IntKind.u32.wrap (r : Int) = (r : Int) := wrapu32_of r hr.out
  have v4 : IntKind.u8.wrap (h : Int) = (h : Int) := wrapu8_of h hh.out
  have v5 : IntKind.u64.wrap (k : Int) = (k : Int) := wrapu64_of k hk.out
  have v6 : IntKind.u32.wrap (f : Int) = (f : Int) := wrapu32_of f hf.out
  have v7 : IntKind.u32.wrap (e : Int) = (e : Int) := wrapu32_of e he.out
  go_enter Tryz.func33, Tryz.ntmps33
  go_upto_region 3 with (go_at_call 67; refine (may_calls _ _ _ _ _ _ _ _ hn8).mono ?_; rintro en w0 ⟨rfl, x0⟩; rw [HM.out]; have b0 := below1 w (.cells #[.int .i64 v, .int .i64 n, .int .i64 r, .int .i64 h, .int .i64 k, .int .i64 f, .int .i64 e] 66))
  have q0 := (HdAt.new w 66 v n r h k f e).below x0
  replace b0 := b0.trans (x0.mono (by simp))
  have m0 := hM.below b0
  obtain ⟨k0, k1, k2, k3, k4, k5, k6, k7⟩ := m0
  clear x0 hn8
  go_upto_region 4 with fail
  have ⟨o1, z1, x1⟩ := lit_two w0 [5, 99, 111, 112] [101, 110, 100, 46] 4 4 (0, 0) (0, 0) 96 96 rfl rfl (by decide) (by decide)
  have q1 := q0.below x1
  have b1 := b0.trans (x1.mono b0.size)
  clear x1
  rw [show (u8s [5, 99, 111, 112]).toArray = #[.int .u8 5, .int .u8 99, .int .u8 111, .int .u8 112] from rfl, show (u8s [101, 110, 100, 46]).toArray = #[.int .u8 101, .int .u8 110, .int .u8 100, .int .u8 46] from rfl] at o1 z1 q1 b1
  generalize hw1 : (w0.alloc (.cells #[.int .u8 5, .int .u8 99, .int .u8 111, .int .u8 112] 96)).alloc (.cells #[.int .u8 101, .int .u8 110, .int .u8 100, .int .u8 46] 96) = w1 at o1 z1 q1 b1 ⊢
  clear hw1 b0 q0 k0 k1 k2 k3 k4 k5 k6 k7
  generalize hg1 : w0.heap.size = g1 at o1 z1 ⊢
  clear hg1 w0
  have od := o1.below (drew1 w1)
  have zd := z1.below (drew1 w1)
  have qd := q1.below (drew1 w1)
  have bd : Below w.heap.size w w1.drew := b1.trans ((drew1 w1).mono b1.size)
  have a0 := qd.c0
  clear o1 z1 q1 b1
  go_region_held3 (fun w' => w'.cell? ⟨w.heap.size, 0, none⟩ = some (.int .i64 v)) (first | exact c2_0 | go_keep)
    (first
      | (go_at_call 68; (with_reducible refine (Put64_to 12 _ _ _ _ v _ od rfl (by omega) hv).mono ?_); rintro en w2 ⟨g2, d2, rfl, s2, o2, x2⟩; have q2 := qd.below x2; have z2 := zd.below x2; have b2 := bd.trans (x2.mono bd.size); have c2_0 := q2.c0))
  clear od zd qd bd a0 c2_0 x2 s2 
  go_step
  go_upto_region 5 with fail
  have od := o2.read.below (drew1 w2)
  have zd := z2.below (drew1 w2)
  have qd := q2.below (drew1 w2)
  have bd : Below w.heap.size w w2.drew := b2.trans ((drew1 w2).mono b2.size)
  have a0 := qd.c1
  have a1 := qd.c2
  clear o2 z2 q2 b2
  go_region_held3 (fun w' => w'.cell? ⟨w.heap.size, 1, none⟩ = some (.int .i64 n) ∧ w'.cell? ⟨w.heap.size, 2, none⟩ = some (.int .i64 r)) (first | exact ⟨c4_0, c4_1⟩ | exact ⟨c3_0, c3_1⟩ | go_keep)
    (first
      | (go_at_call 69; (with_reducible refine (Put32_to 20 _ _ _ _ r _ o3.read rfl (by omega) hr).mono ?_); rintro en w4 ⟨g4, d4, rfl, s4, o4, x4⟩; have q4 := q3.below x4; have z4 := z3.below x4; have b4 := b3.trans (x4.mono b3.size); have c4_0 := q4.c1; have c4_1 := q4.c2)
      | (go_at_call 69; (with_reducible refine (Put32_to 16 _ _ _ _ n _ od rfl (by omega) hn).mono ?_); rintro en w3 ⟨g3, d3, rfl, s3, o3, x3⟩; have q3 := qd.below x3; have z3 := zd.below x3; have b3 := bd.trans (x3.mono bd.size); have c3_0 := q3.c1; have c3_1 := q3.c2))
  clear od zd qd bd a0 a1 c3_0 c3_1 c4_0 c4_1 x3 s3 x4 s4 o3 q3 z3 b3
  go_step
  go_upto_region 6 with fail
  have od := o4.read.below (drew1 w4)
  have zd := z4.below (drew1 w4)
  have qd := q4.below (drew1 w4)
  have bd : Below w.heap.size w w4.drew := b4.trans ((drew1 w4).mono b4.size)
  have a0 := qd.c3
  have a1 := qd.c4
  clear o4 z4 q4 b4
  go_region_held3 (fun w' => w'.cell? ⟨w.heap.size, 3, none⟩ = some (.int .i64 h) ∧ w'.cell? ⟨w.heap.size, 4, none⟩ = some (.int .i64 k)) (first | exact ⟨c6_0, c6_1⟩ | exact ⟨c5_0, c5_1⟩ | go_keep)
    (first
      | (go_at_call 68; (with_reducible refine (Put64_to 29 _ _ _ _ k _ o5.read rfl (by omega) hk).mono ?_); rintro en w6 ⟨g6, d6, rfl, s6, o6, x6⟩; have q6 := q5.below x6; have z6 := z5.below x6; have b6 := b5.trans (x6.mono b5.size); have c6_0 := q6.c3; have c6_1 := q6.c4)
      | (go_at_call 70; (with_reducible refine (Put8_to 21 _ _ _ _ h _ od rfl (by omega) hh).mono ?_); rintro en w5 ⟨g5, d5, rfl, s5, o5, x5⟩; have q5 := qd.below x5; have z5 := zd.below x5; have b5 := bd.trans (x5.mono bd.size); have c5_0 := q5.c3; have c5_1 := q5.c4))
  clear od zd qd bd a0 a1 c5_0 c5_1 c6_0 c6_1 x5 s5 x6 s6 o5 q5 z5 b5
  go_step
  go_upto_region 7 with fail
  have od := o6.read.below (drew1 w6)
  have zd := z6.below (drew1 w6)
  have qd := q6.below (drew1 w6)
  have bd : Below w.heap.size w w6.drew := b6.trans ((drew1 w6).mono b6.size)
  have a0 := qd.c5
  have a1 := qd.c6
  clear o6 z6 q6 b6
  go_region_held3 (fun w' => w'.cell? ⟨w.heap.size, 5, none⟩ = some (.int .i64 f) ∧ w'.cell? ⟨w.heap.size, 6, none⟩ = some (.int .i64 e)) (first | exact ⟨c8_0, c8_1⟩ | exact ⟨c7_0, c7_1⟩ | go_keep)
    (first
      | (go_at_call 69; (with_reducible refine (Put32_to 37 _ _ _ _ e _ o7.read rfl (by omega) he).mono ?_); rintro en w8 ⟨g8, d8, rfl, s8, o8, x8⟩; have q8 := q7.below x8; have z8 := z7.below x8; have b8 := b7.trans (x8.mono b7.size); have c8_0 := q8.c5; have c8_1 := q8.c6)
      | (go_at_call 69; (with_reducible refine (Put32_to 33 _ _ _ _ f _ od rfl (by omega) hf).mono ?_); rintro en w7 ⟨g7, d7, rfl, s7, o7, x7⟩; have q7 := qd.below x7; have z7 := zd.below x7; have b7 := bd.trans (x7.mono bd.size); have c7_0 := q7.c5; have c7_1 := q7.c6))
  clear od zd qd bd a0 a1 c7_0 c7_1 c8_0 c8_1 x7 s7 x8 s8 o7 q7 z7 b7
  go_step
  go_upto_region 10 with (first
    | (at_make; refine wpB_full rfl _ _ rfl _ _ _ _ 4092 rfl rfl rfl rfl (by omega) ?_; intro g9 w9 s9 o9 k9; have x9 := below_of_grown k9 (Nat.le_refl _) (by simp); have r9 := o8.read.below x9; have z9 := z8.below x9; have b9 := b8.trans (x9.mono b8.size); have e9 := o9.lt; have p9 := Nat.le_trans b8.size s9; have y9 := k9.size)
    | (with_reducible refine wpB_copy rfl (.tmp 51) (.tmp 52) rfl _ _ _ rfl _ _ _ rfl _ _ _ 0 _ _ o9 r9 37 (by decide) (fun _ => rfl) (by omega) ?_; intro w10 o10 k10))
  have hz9 : ∀ ad, some (⟨g1 + 1, 0, none⟩ : Addr) = some ad → (0 : Nat) < 4 → Sm w9 w10 ad.block := by
    intro ad q _
    cases q
    have l9 := z8.block_lt (by decide)
    exact Sm.of_grown k10 (Nat.lt_of_lt_of_le l9 y9) (by simp only [ne_eq, Option.some.injEq]; have : g1 + 1 < w8.heap.size := l9; omega)
  have z10 := (z9.same hz9).below (drew1 w10)
  have o11 := o10.below (drew1 w10)
  have b11 : Below w.heap.size w w10.drew := (b9.grown k10 (Nat.le_trans b8.size y9) (by simp; omega)).trans ((drew1 w10).mono (Nat.le_trans (Nat.le_trans b8.size y9) k10.size))
  go_region_law (with_reducible refine stepB_copy rfl (.tmp 55) (.tmp 56) rfl _ _ _ rfl _ _ _ rfl _ _ _ 4088 _ _ o11 z10 4 (by decide) (fun _ => rfl) (by omega) ?_; intro w12 o12 k12)
  all_goals
    have hbl : ([5, 99, 111, 112] ++ leB v 8 ++ leB n 4 ++ leB r 4 ++ leB h 1 ++ leB k 8 ++ leB f 4 ++ leB e 4).length = 37 := headB_length v n r h k f e
    rw [body_copies _ hbl] at o12
    have b12 := b11.grown k12 b11.size (by simp; omega)
    clear o8 q8 z8 b8 s9 o9 k9 x9 r9 z9 b9 e9 y9 o10 k10 hz9 z10 o11 b11 k12 hbl
    go_wp2
    go_ret2
    exact ⟨g9, rfl, p9, o12, b12⟩
end Go.Proofs.YtenalocpmigppaaGreatDoor
