/- The walk of the law MetaTorn. -/
import Derived.Test.YtgajlippppebpaaDoorMq
namespace Go.Proofs.YtgajlippppebpaaDoor
open Go.RowKit

theorem torn_no {ys : List UInt8} (h : ys.getD 4091 1 = 0) : decOk ys = false := by
  rw [← Bool.not_eq_true]; intro hk
  have e := decOk_end hk
  have e2 : (ys.drop 4088)[3]? = some 46 := by rw [e]; rfl
  rw [List.getElem?_drop] at e2
  rw [List.getD_eq_getElem?_getD, e2] at h
  exact absurd h (by decide)
theorem torn_step {ys : List UInt8} {i : Nat} (hl : ys.length = 4092) : Hid (i + 1 = 4092 → (ys.set i 0).getD 4091 1 = 0) := by
  unfold Hid
  intro hi
  obtain rfl : i = 4091 := by omega
  rw [List.getD_eq_getElem?_getD, List.getElem?_set_self (by omega)]
  rfl
theorem Encode_nat (v n r h k f e : Nat) (w : World) (hm : mayB v n r h k f e = true) (hM : Marks w) :
    Calls Tryd.prog 11 #[.agg #[.int .i64 v, .int .i64 n, .int .i64 r, .int .i64 h, .int .i64 k, .int .i64 f, .int .i64 e]] w fun en w' => ∃ g, en = .returned (.tuple #[.slice (some ⟨g, 0, none⟩) 4092 4092, .int .i64 0]) ∧ w.heap.size ≤ g ∧ OB w' g 4092 4092 (bodyB v n r h k f e) ∧ Below w.heap.size w w' := by
  have b := mayB_bounds hm
  have p1 : 256 ^ 1 = 256 := by decide
  have p4 : 256 ^ 4 = 4294967296 := by decide
  have p8 : 256 ^ 8 = 18446744073709551616 := by decide
  exact Encode_ok v n r h k f e w (hideIt (by omega)) (hideIt (by omega)) (hideIt (by omega)) (hideIt (by omega)) (hideIt (by omega)) (hideIt (by omega)) (hideIt (by omega)) hm hM

set_option maxRecDepth 100000 in
set_option maxHeartbeats 4000000 in
theorem MetaTorn_walk (v n r h k f e : Int) (K : Int) (w : World) (_hq : I64 v ∧ I64 n ∧ I64 r ∧ I64 h ∧ I64 k ∧ I64 f ∧ I64 e) (_hK : -9223372036854775808 ≤ K ∧ K ≤ 9223372036854775807) (hM : Marks w) :
    Calls Tryd.prog 8 #[.agg #[.int .i64 v, .int .i64 n, .int .i64 r, .int .i64 h, .int .i64 k, .int .i64 f, .int .i64 e], .int .i64 K] w fun en w' => en = .returned (.bool true) ∧ Below w.heap.size w w' := by
  clear _hq _hK
  cases hm : mayB v n r h k f e
  · have hb1 := below1 w (.cells #[.int .i64 v, .int .i64 n, .int .i64 r, .int .i64 h, .int .i64 k, .int .i64 f, .int .i64 e] 23)
    have q1 := (HC.new w v n r h k f e).at_
    have HM := hideIt hm
    clear hm
    go_enter Tryd.func8, Tryd.ntmps8
    go_upto_region 1 with fail
    generalize w.alloc (.cells #[.int .i64 v, .int .i64 n, .int .i64 r, .int .i64 h, .int .i64 k, .int .i64 f, .int .i64 e] 23) = w1 at *
    go_upto_region 2 with (go_at_call 10; refine (first_calls _ (hM.below hb1)).mono ?_; rintro en w2 ⟨rfl, x2⟩)
    have q2 := q1.below x2
    have b2 := hb1.trans (x2.mono hb1.size)
    clear x2 q1 hb1 w1
    obtain ⟨i0, i1, i2, i3, i4, i5, i6, i7⟩ := q2
    go_wp2_with (go_at_call 21; refine (refMay_calls _ _ _ _ _ _ _ _).mono ?_; rintro en w3 ⟨rfl, x3⟩; rw [HM.out])
    go_ret
    exact ⟨rfl, b2.trans (x3.mono b2.size)⟩
  have bm := mayB_bounds hm
  obtain ⟨v, rfl⟩ : ∃ m : Nat, v = m := ⟨v.toNat, by omega⟩
  obtain ⟨n, rfl⟩ : ∃ m : Nat, n = m := ⟨n.toNat, by omega⟩
  obtain ⟨r, rfl⟩ : ∃ m : Nat, r = m := ⟨r.toNat, by omega⟩
  obtain ⟨h, rfl⟩ : ∃ m : Nat, h = m := ⟨h.toNat, by omega⟩
  obtain ⟨k, rfl⟩ : ∃ m : Nat, k = m := ⟨k.toNat, by omega⟩
  obtain ⟨f, rfl⟩ : ∃ m : Nat, f = m := ⟨f.toNat, by omega⟩
  obtain ⟨e, rfl⟩ : ∃ m : Nat, e = m := ⟨e.toNat, by omega⟩
  clear bm
  obtain ⟨r0, q, hr, hr1, hr2, hq, hqn⟩ : ∃ (r0 : Int) (q : Nat), Int.tmod K 4092 = r0 ∧ -4092 < r0 ∧ r0 < 4092 ∧ r0 % 4092 = (q : Int) ∧ q < 4092 := place K 4092 (by decide)
  have hb1 := below1 w (.cells #[.int .i64 v, .int .i64 n, .int .i64 r, .int .i64 h, .int .i64 k, .int .i64 f, .int .i64 e] 23)
  have q1 := (HC.new w v n r h k f e).at_
  have HM := hideIt hm
  clear hm
  go_enter Tryd.func8, Tryd.ntmps8
  go_upto_region 1 with fail
  generalize w.alloc (.cells #[.int .i64 v, .int .i64 n, .int .i64 r, .int .i64 h, .int .i64 k, .int .i64 f, .int .i64 e] 23) = w1 at *
  go_upto_region 2 with (go_at_call 10; refine (first_calls _ (hM.below hb1)).mono ?_; rintro en w2 ⟨rfl, x2⟩)
  have q2 := q1.below x2
  have b2 := hb1.trans (x2.mono hb1.size)
  clear x2 q1 hb1 w1
  obtain ⟨i0, i1, i2, i3, i4, i5, i6, i7⟩ := q2
  have q2 : HdAt w2 w.heap.size v n r h k f e := ⟨i0, i1, i2, i3, i4, i5, i6, i7⟩
  go_upto_region 5 with (go_at_call 21; refine (refMay_calls _ _ _ _ _ _ _ _).mono ?_; rintro en w3 ⟨rfl, x3⟩; rw [HM.out])
  have q3 := q2.below x3
  have b3 := b2.trans (x3.mono b2.size)
  clear x3 q2 b2 i0 i1 i2 i3 i4 i5 i6 i7 w2
  obtain ⟨i0, i1, i2, i3, i4, i5, i6, i7⟩ := q3
  go_upto_region 6 with (go_at_call 11; refine (Encode_nat _ _ _ _ _ _ _ _ HM.out (hM.below b3)).mono ?_; rintro en w4 ⟨g, rfl, s4, o4, x4⟩)
  have b4 := b3.trans (x4.mono b3.size)
  have gw := Nat.le_trans b3.size s4
  clear x4 s4 b3 i0 i1 i2 i3 i4 i5 i6 i7 w3
  go_upto_region 8 with (go_at_call 14; refine (num_calls _ _).mono ?_; rintro en w9 ⟨rfl, rfl⟩)
  go_upto_region 9 with fail
  go_loopw [9] (fun ii wr => ∃ (i : Nat) (ys : List UInt8), i ≤ 4092 ∧ ii = .int .i64 (i : Int) ∧ OB wr g 4092 4092 ys ∧ Hid (i = 4092 → ys.getD 4091 1 = 0) ∧ Below w.heap.size w wr)
    (fun ii _ => 4092 - (intOf ii).toNat)
  case atStart => exact ⟨q, _, by omega, congrArg (Value.int .i64) (by omega), o4, by unfold Hid; omega, b4⟩
  case round =>
    obtain ⟨i, ys, hi, rfl, oy, HY, by_⟩ := hrel
    by_cases hlt : i < 4092
    · have hl := oy.len
      have HS := torn_step (i := i) hl
      have ci := oy.cell i (by omega)
      have fi := oy.free i
      have o2 := oy.set i 0
      have b5 := by_.setCell (p := ⟨g, i, none⟩) gw (.int .u8 0)
      clear hr hr1 hr2 hq
      go_wp2
      go_roundw
      case rel => exact ⟨i + 1, _, by omega, by go_num, o2, HS, b5⟩
      case measure => simp [intOf]; omega
    · obtain rfl : i = 4092 := by omega
      have no := torn_no (HY.out rfl)
      have D := Decode_any _ _ _ _ _ oy.read (hM.below by_)
      rw [(dec_no no).1, (dec_no no).2] at D
      unfold zeroHead at D
      clear no HY hr hr1 hr2 hq
      go_upto_region 13 with (go_at_call 19; refine D.mono ?_; rintro en w21 ⟨rfl, x21⟩)
      have y21 := below1 w21 (.cells #[.int .i64 0, .int .i64 0, .int .i64 0, .int .i64 0, .int .i64 0, .int .i64 0, .int .i64 0] 23)
      have p22 := (HC.new w21 0 0 0 0 0 0 0).at_
      have b22 := by_.trans ((x21.trans (y21.mono x21.size)).mono by_.size)
      clear D x21 y21
      generalize w21.alloc (.cells #[.int .i64 0, .int .i64 0, .int .i64 0, .int .i64 0, .int .i64 0, .int .i64 0, .int .i64 0] 23) = w22 at *
      generalize w21.heap.size = g22 at *
      clear w21
      obtain ⟨j0, j1, j2, j3, j4, j5, j6, j7⟩ := p22
      go_wp2_with (first
        | (go_at_call 20; refine (SameHead_calls _ _ _ _ _ _ _ _).mono ?_; rintro en w23 ⟨rfl, x23⟩)
        | (go_at_call 14; refine (num_calls _ _).mono ?_; rintro en w9 ⟨rfl, rfl⟩))
      go_ret
      exact ⟨rfl, b22.trans (x23.mono b22.size)⟩
end Go.Proofs.YtgajlippppebpaaDoor
