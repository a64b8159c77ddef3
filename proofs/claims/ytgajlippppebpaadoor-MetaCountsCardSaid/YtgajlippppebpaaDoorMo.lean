/- The walks of the laws MetaNewers, MetaCounts. -/
import Derived.Test.YtgajlippppebpaaDoorMn
namespace Go.Proofs.YtgajlippppebpaaDoor
open Go.RowKit

theorem i64_and1 (n : Int) : bits .and .i64 n 1 = n % 2 := by
  have h1 : (BitVec.ofInt 64 1).toNat = 2 ^ 1 - 1 := by decide
  have key : (BitVec.ofInt 64 n &&& BitVec.ofInt 64 1).toNat = (n % ((2 ^ 64 : Nat) : Int)).toNat % 2 ^ 1 := by
    rw [BitVec.toNat_and, BitVec.toNat_ofInt, h1, Nat.and_two_pow_sub_one_eq_mod]
  show IntKind.i64.wrap ((BitVec.ofInt 64 n &&& BitVec.ofInt 64 1).toNat : Nat) = n % 2
  rw [key, IntKind.wrap_i64]
  omega

theorem tmod_two (v : Int) : (Int.tmod v 2 == 0) = (v % 2 == 0) := by
  rw [Bool.eq_iff_iff, beq_iff_eq, beq_iff_eq]
  constructor
  · intro h
    have := Int.dvd_of_tmod_eq_zero h
    omega
  · intro h
    exact Int.tmod_eq_zero_of_dvd (by omega)
theorem two_heads (w : World) (v n r h k f e v' n' r' h' k' f' e' : Int) :
    HdAt ((w.alloc (.cells #[.int .i64 v, .int .i64 n, .int .i64 r, .int .i64 h, .int .i64 k, .int .i64 f, .int .i64 e] 23)).alloc (.cells #[.int .i64 v', .int .i64 n', .int .i64 r', .int .i64 h', .int .i64 k', .int .i64 f', .int .i64 e'] 23)) w.heap.size v n r h k f e ∧ HdAt ((w.alloc (.cells #[.int .i64 v, .int .i64 n, .int .i64 r, .int .i64 h, .int .i64 k, .int .i64 f, .int .i64 e] 23)).alloc (.cells #[.int .i64 v', .int .i64 n', .int .i64 r', .int .i64 h', .int .i64 k', .int .i64 f', .int .i64 e'] 23)) (w.heap.size + 1) v' n' r' h' k' f' e' ∧ Below w.heap.size w ((w.alloc (.cells #[.int .i64 v, .int .i64 n, .int .i64 r, .int .i64 h, .int .i64 k, .int .i64 f, .int .i64 e] 23)).alloc (.cells #[.int .i64 v', .int .i64 n', .int .i64 r', .int .i64 h', .int .i64 k', .int .i64 f', .int .i64 e'] 23)) := by
  have a := (HC.new w v n r h k f e).at_
  have b := (HC.new (w.alloc (.cells #[.int .i64 v, .int .i64 n, .int .i64 r, .int .i64 h, .int .i64 k, .int .i64 f, .int .i64 e] 23)) v' n' r' h' k' f' e').at_
  have c := below1 (w.alloc (.cells #[.int .i64 v, .int .i64 n, .int .i64 r, .int .i64 h, .int .i64 k, .int .i64 f, .int .i64 e] 23)) (.cells #[.int .i64 v', .int .i64 n', .int .i64 r', .int .i64 h', .int .i64 k', .int .i64 f', .int .i64 e'] 23)
  have e1 : (w.alloc (.cells #[.int .i64 v, .int .i64 n, .int .i64 r, .int .i64 h, .int .i64 k, .int .i64 f, .int .i64 e] 23)).heap.size = w.heap.size + 1 := by simp
  refine ⟨a.below c, ?_, (below1 w _).trans (c.mono (by rw [e1]; omega))⟩
  rwa [e1] at b

set_option maxRecDepth 100000 in
set_option maxHeartbeats 4000000 in
theorem MetaNewers_walk (v n r h k f e v' n' r' h' k' f' e' : Int) (a b : Bool) (w : World) (_hq : I64 v ∧ I64 n ∧ I64 r ∧ I64 h ∧ I64 k ∧ I64 f ∧ I64 e) (_hq' : I64 v' ∧ I64 n' ∧ I64 r' ∧ I64 h' ∧ I64 k' ∧ I64 f' ∧ I64 e') (hM : Marks w) :
    Calls Tryd.prog 5 #[.agg #[.int .i64 v, .int .i64 n, .int .i64 r, .int .i64 h, .int .i64 k, .int .i64 f, .int .i64 e], .agg #[.int .i64 v', .int .i64 n', .int .i64 r', .int .i64 h', .int .i64 k', .int .i64 f', .int .i64 e'], .bool a, .bool b] w fun en w' => en = .returned (.bool true) ∧ Below w.heap.size w w' := by
  obtain ⟨q1, p1, b1⟩ := two_heads w v n r h k f e v' n' r' h' k' f' e'
  clear _hq _hq'
  go_enter Tryd.func5, Tryd.ntmps5
  go_upto_region 1 with fail
  generalize (w.alloc (.cells #[.int .i64 v, .int .i64 n, .int .i64 r, .int .i64 h, .int .i64 k, .int .i64 f, .int .i64 e] 23)).alloc (.cells #[.int .i64 v', .int .i64 n', .int .i64 r', .int .i64 h', .int .i64 k', .int .i64 f', .int .i64 e'] 23) = w1 at *
  go_upto_region 2 with (go_at_call 10; refine (first_calls _ (hM.below b1)).mono ?_; rintro en w2 ⟨rfl, x2⟩)
  have q2 := q1.below x2
  have p2 := p1.below x2
  have b2 := b1.trans (x2.mono b1.size)
  clear x2 q1 p1 b1 w1
  have qd := q2.below (drew1 w2)
  have pd := p2.below (drew1 w2)
  have bd := b2.trans ((drew1 w2).mono b2.size)
  clear q2 p2 b2
  obtain ⟨i0, i1, i2, i3, i4, i5, i6, i7⟩ := qd
  obtain ⟨j0, j1, j2, j3, j4, j5, j6, j7⟩ := pd
  have q3 : HdAt w2.drew w.heap.size v n r h k f e := ⟨i0, i1, i2, i3, i4, i5, i6, i7⟩
  have p3 : HdAt w2.drew (w.heap.size + 1) v' n' r' h' k' f' e' := ⟨j0, j1, j2, j3, j4, j5, j6, j7⟩
  go_region_held3 (fun w' => w'.cell? ⟨w.heap.size, 0, none⟩ = some (.int .i64 v) ∧ w'.cell? ⟨w.heap.size, 1, none⟩ = some (.int .i64 n) ∧ w'.cell? ⟨w.heap.size, 2, none⟩ = some (.int .i64 r) ∧ w'.cell? ⟨w.heap.size, 3, none⟩ = some (.int .i64 h) ∧ w'.cell? ⟨w.heap.size, 4, none⟩ = some (.int .i64 k) ∧ w'.cell? ⟨w.heap.size, 5, none⟩ = some (.int .i64 f) ∧ w'.cell? ⟨w.heap.size, 6, none⟩ = some (.int .i64 e) ∧ w'.cell? ⟨w.heap.size + 1, 0, none⟩ = some (.int .i64 v') ∧ w'.cell? ⟨w.heap.size + 1, 1, none⟩ = some (.int .i64 n') ∧ w'.cell? ⟨w.heap.size + 1, 2, none⟩ = some (.int .i64 r') ∧ w'.cell? ⟨w.heap.size + 1, 3, none⟩ = some (.int .i64 h') ∧ w'.cell? ⟨w.heap.size + 1, 4, none⟩ = some (.int .i64 k') ∧ w'.cell? ⟨w.heap.size + 1, 5, none⟩ = some (.int .i64 f') ∧ w'.cell? ⟨w.heap.size + 1, 6, none⟩ = some (.int .i64 e'))
    (first | exact ⟨q5.c0, q5.c1, q5.c2, q5.c3, q5.c4, q5.c5, q5.c6, p5.c0, p5.c1, p5.c2, p5.c3, p5.c4, p5.c5, p5.c6⟩ | exact ⟨q4.c0, q4.c1, q4.c2, q4.c3, q4.c4, q4.c5, q4.c6, p4.c0, p4.c1, p4.c2, p4.c3, p4.c4, p4.c5, p4.c6⟩ | exact ⟨q3.c0, q3.c1, q3.c2, q3.c3, q3.c4, q3.c5, q3.c6, p3.c0, p3.c1, p3.c2, p3.c3, p3.c4, p3.c5, p3.c6⟩ | go_keep)
    (first
      | (go_at_call 18; refine (refNewer_calls _ _ _ _ _ _ _ _ _ _ _ _ _ _ _ _ _).mono ?_; rintro en w5 ⟨rfl, x5⟩; have q5 := q4.below x5; have p5 := p4.below x5; have b5 := b4.trans (x5.mono b4.size))
      | (go_at_call 17; refine (Newer_calls _ _ _ _ _ _ _ _ _ _ _ _ _ _ _ _ _).mono ?_; rintro en w4 ⟨rfl, x4⟩; have q4 := q3.below x4; have p4 := p3.below x4; have b4 := bd.trans (x4.mono bd.size)))
  all_goals
    clear q3 p3 q4 p4 q5 p5 i0 i1 i2 i3 i4 i5 i6 i7 j0 j1 j2 j3 j4 j5 j6 j7
    go_wp2
    go_ret
    exact ⟨ret_bool (by simp), b5⟩

set_option maxRecDepth 100000 in
set_option maxHeartbeats 4000000 in
theorem MetaCounts_walk (v n r h k f e v' n' r' h' k' f' e' : Int) (a b : Bool) (w : World) (_hq : I64 v ∧ I64 n ∧ I64 r ∧ I64 h ∧ I64 k ∧ I64 f ∧ I64 e) (_hq' : I64 v' ∧ I64 n' ∧ I64 r' ∧ I64 h' ∧ I64 k' ∧ I64 f' ∧ I64 e') (hM : Marks w) :
    Calls Tryd.prog 6 #[.agg #[.int .i64 v, .int .i64 n, .int .i64 r, .int .i64 h, .int .i64 k, .int .i64 f, .int .i64 e], .agg #[.int .i64 v', .int .i64 n', .int .i64 r', .int .i64 h', .int .i64 k', .int .i64 f', .int .i64 e'], .bool a, .bool b] w fun en w' => en = .returned (.bool true) ∧ Below w.heap.size w w' := by
  obtain ⟨q1, p1, b1⟩ := two_heads w v n r h k f e v' n' r' h' k' f' e'
  clear _hq _hq'
  go_enter Tryd.func6, Tryd.ntmps6
  go_upto_region 1 with fail
  generalize (w.alloc (.cells #[.int .i64 v, .int .i64 n, .int .i64 r, .int .i64 h, .int .i64 k, .int .i64 f, .int .i64 e] 23)).alloc (.cells #[.int .i64 v', .int .i64 n', .int .i64 r', .int .i64 h', .int .i64 k', .int .i64 f', .int .i64 e'] 23) = w1 at *
  go_upto_region 2 with (go_at_call 10; refine (first_calls _ (hM.below b1)).mono ?_; rintro en w2 ⟨rfl, x2⟩)
  have q2 := q1.below x2
  have p2 := p1.below x2
  have b2 := b1.trans (x2.mono b1.size)
  clear x2 q1 p1 b1 w1
  obtain ⟨i0, i1, i2, i3, i4, i5, i6, i7⟩ := q2
  obtain ⟨j0, j1, j2, j3, j4, j5, j6, j7⟩ := p2
  have q2 : HdAt w2 w.heap.size v n r h k f e := ⟨i0, i1, i2, i3, i4, i5, i6, i7⟩
  have p2 : HdAt w2 (w.heap.size + 1) v' n' r' h' k' f' e' := ⟨j0, j1, j2, j3, j4, j5, j6, j7⟩
  go_upto_region 3 with (go_at_call 17; refine (Newer_calls _ _ _ _ _ _ _ _ _ _ _ _ _ _ _ _ _).mono ?_; rintro en w4 ⟨rfl, x4⟩)
  have q4 := q2.below x4
  have p4 := p2.below x4
  have b4 := b2.trans (x4.mono b2.size)
  clear x4 q2 p2 b2 i0 i1 i2 i3 i4 i5 i6 i7 j0 j1 j2 j3 j4 j5 j6 j7 w2
  obtain ⟨i0, i1, i2, i3, i4, i5, i6, i7⟩ := q4
  obtain ⟨j0, j1, j2, j3, j4, j5, j6, j7⟩ := p4
  have q4 : HdAt w4 w.heap.size v n r h k f e := ⟨i0, i1, i2, i3, i4, i5, i6, i7⟩
  have p4 : HdAt w4 (w.heap.size + 1) v' n' r' h' k' f' e' := ⟨j0, j1, j2, j3, j4, j5, j6, j7⟩
  go_upto_region 4 with (go_at_call 17; refine (Newer_calls _ _ _ _ _ _ _ _ _ _ _ _ _ _ _ _ _).mono ?_; rintro en w5 ⟨rfl, x5⟩)
  have a0 := (q4.below x5).c0
  have c0 := (p4.below x5).c0
  have b5 := b4.trans (x5.mono b4.size)
  clear x5 q4 p4 b4 i0 j0 i1 i2 i3 i4 i5 i6 i7 j1 j2 j3 j4 j5 j6 j7 w4 hM
  obtain ⟨q, hq⟩ : ∃ q, newer v v' a b = q := ⟨_, rfl⟩
  rw [hq]
  unfold newer at hq
  have av := i64_and1 v
  have av' := i64_and1 v'
  have tv := tmod_two v
  have tv' := tmod_two v'
  rw [tv, tv'] at hq
  clear tv tv'
  rcases Int.emod_two_eq v with hx | hx <;> rcases Int.emod_two_eq v' with hy | hy <;> cases a <;> cases b <;> by_cases hg : v' < v
  all_goals
    rw [hx, hy] at hq
    rw [hx] at av
    rw [hy] at av'
    clear hx hy
    simp [hg] at hq
    subst hq
    go_wp2
    all_goals go_ret
    all_goals exact ⟨by first | rfl | (congr 2; simp; omega), b5⟩
end Go.Proofs.YtgajlippppebpaaDoor
