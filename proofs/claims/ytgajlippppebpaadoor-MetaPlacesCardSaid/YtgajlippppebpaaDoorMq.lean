/- The walk of the law MetaBack. -/
import Derived.Test.YtgajlippppebpaaDoorMn
namespace Go.Proofs.YtgajlippppebpaaDoor
open Go.RowKit

theorem decV_encR {v n r h k f e : Int} (hm : mayB v n r h k f e = true) : decV (encR v n r h k f e) = .agg #[.int .i64 v, .int .i64 n, .int .i64 r, .int .i64 h, .int .i64 k, .int .i64 f, .int .i64 e] ∧ decC (encR v n r h k f e) = 0 ∧ (encR v n r h k f e).length = 4092 := by
  have b := mayB_bounds hm
  obtain ⟨v, rfl⟩ : ∃ m : Nat, v = m := ⟨v.toNat, by omega⟩
  obtain ⟨n, rfl⟩ : ∃ m : Nat, n = m := ⟨n.toNat, by omega⟩
  obtain ⟨r, rfl⟩ : ∃ m : Nat, r = m := ⟨r.toNat, by omega⟩
  obtain ⟨h, rfl⟩ : ∃ m : Nat, h = m := ⟨h.toNat, by omega⟩
  obtain ⟨k, rfl⟩ : ∃ m : Nat, k = m := ⟨k.toNat, by omega⟩
  obtain ⟨f, rfl⟩ : ∃ m : Nat, f = m := ⟨f.toNat, by omega⟩
  obtain ⟨e, rfl⟩ : ∃ m : Nat, e = m := ⟨e.toNat, by omega⟩
  have e1 : encR v n r h k f e = bodyB v n r h k f e := by unfold encR; rw [hm]; rfl
  rw [e1]
  exact ⟨(decV_body v n r h k f e hm).1, (decV_body v n r h k f e hm).2, bodyB_length _ _ _ _ _ _ _⟩
theorem encR_no {v n r h k f e : Int} (hm : mayB v n r h k f e = false) : encR v n r h k f e = [] ∧ encC v n r h k f e = 71 := by
  unfold encR encC; rw [hm]; exact ⟨rfl, rfl⟩
theorem encC_yes {v n r h k f e : Int} (hm : mayB v n r h k f e = true) : encC v n r h k f e = 0 := by
  unfold encC; rw [hm]; rfl
/-- What a body says that is one: numbers, and their body is it. -/
theorem dec_yes {xs : List UInt8} (hd : decOk xs = true) : ∃ v n r h k f e : Int, decV xs = .agg #[.int .i64 v, .int .i64 n, .int .i64 r, .int .i64 h, .int .i64 k, .int .i64 f, .int .i64 e] ∧ decC xs = 0 ∧ mayB v n r h k f e = true ∧ encR v n r h k f e = xs ∧ I64 n := by
  have hd' := hd
  unfold decOk at hd'
  rw [Bool.and_eq_true, decide_eq_true_eq] at hd'
  have l := numAt_lt4 xs 12
  refine ⟨(numAt xs 4 8 : Nat), (numAt xs 12 4 : Nat), (numAt xs 16 4 : Nat), (numAt xs 20 1 : Nat), (numAt xs 21 8 : Nat), (numAt xs 29 4 : Nat), (numAt xs 33 4 : Nat), ?_, ?_, hd'.1, ?_, by unfold I64; omega⟩
  · unfold decV; rw [hd]; rfl
  · unfold decC; rw [hd]; rfl
  · unfold encR
    rw [hd'.1]
    exact hd'.2

set_option maxRecDepth 100000 in
set_option maxHeartbeats 4000000 in
theorem MetaBack_walk (v n r h k f e : Int) (A : Option Addr) (m c : Nat) (xs : List UInt8) (w : World) (hq : I64 v ∧ I64 n ∧ I64 r ∧ I64 h ∧ I64 k ∧ I64 f ∧ I64 e) (hx : RB w A m c xs) (_hb : m ≤ 140737488351232) (hM : Marks w) :
    Calls Tryd.prog 7 #[.agg #[.int .i64 v, .int .i64 n, .int .i64 r, .int .i64 h, .int .i64 k, .int .i64 f, .int .i64 e], .slice A m c] w fun en w' => en = .returned (.bool true) ∧ Below w.heap.size w w' := by
  have hb1 := below1 w (.cells #[.int .i64 v, .int .i64 n, .int .i64 r, .int .i64 h, .int .i64 k, .int .i64 f, .int .i64 e] 23)
  have q1 := (HC.new w v n r h k f e).at_
  have n8 := hq.2.1
  clear hq
  by_cases hbig : 65536 < m
  · have hbig' : (65536 : Int) < m := by omega
    go_enter Tryd.func7, Tryd.ntmps7
    go_wp2_with (go_at_call 10; refine (first_calls _ (hM.below hb1)).mono ?_; rintro e w1 ⟨rfl, b1⟩)
    go_ret
    exact ⟨rfl, hb1.trans (b1.mono hb1.size)⟩
  have hsmall : (m : Int) ≤ 65536 := by omega
  clear hbig
  go_enter Tryd.func7, Tryd.ntmps7
  go_upto_region 1 with fail
  generalize w.alloc (.cells #[.int .i64 v, .int .i64 n, .int .i64 r, .int .i64 h, .int .i64 k, .int .i64 f, .int .i64 e] 23) = w1 at *
  go_upto_region 4 with (go_at_call 10; refine (first_calls _ (hM.below hb1)).mono ?_; rintro en w2 ⟨rfl, x2⟩)
  have q2 := q1.below x2
  have b2 := hb1.trans (x2.mono hb1.size)
  clear x2 q1 hb1 w1
  obtain ⟨i0, i1, i2, i3, i4, i5, i6, i7⟩ := q2
  have q2 : HdAt w2 w.heap.size v n r h k f e := ⟨i0, i1, i2, i3, i4, i5, i6, i7⟩
  go_upto_region 5 with (go_at_call 11; refine (Encode_any _ _ _ _ _ _ _ _ n8 (hM.below b2)).mono ?_; rintro en w3 ⟨A3, n3, c3, rfl, r3, x3⟩)
  have q3 := q2.below x3
  have b3 := b2.trans (x3.mono b2.size)
  clear x3 q2 b2 i0 i1 i2 i3 i4 i5 i6 i7 w2
  cases hm : mayB v n r h k f e
  · rw [(encR_no hm).2]
    rw [(encR_no hm).1] at r3
    obtain rfl : 0 = n3 := r3.len
    clear r3 hm q3
    go_upto_region 12 with (go_at_call 14; refine (num_calls _ _).mono ?_; rintro en w9 ⟨rfl, rfl⟩)
    have h20 := hx.below b3
    have D := Decode_any _ _ _ _ _ h20 (hM.below b3)
    cases hd : decOk xs
    · rw [(dec_no hd).1, (dec_no hd).2] at D
      unfold zeroHead at D
      clear hd
      go_upto_region 13 with (go_at_call 19; refine D.mono ?_; rintro en w21 ⟨rfl, x21⟩)
      have y21 := below1 w21 (.cells #[.int .i64 0, .int .i64 0, .int .i64 0, .int .i64 0, .int .i64 0, .int .i64 0, .int .i64 0] 23)
      have p22 := (HC.new w21 0 0 0 0 0 0 0).at_
      have b22 := b3.trans ((x21.trans (y21.mono x21.size)).mono b3.size)
      clear D x21 y21 h20
      generalize w21.alloc (.cells #[.int .i64 0, .int .i64 0, .int .i64 0, .int .i64 0, .int .i64 0, .int .i64 0, .int .i64 0] 23) = w22 at *
      generalize w21.heap.size = g22 at *
      clear w21
      obtain ⟨j0, j1, j2, j3, j4, j5, j6, j7⟩ := p22
      go_wp2_with (first
        | (go_at_call 20; refine (SameHead_calls _ _ _ _ _ _ _ _).mono ?_; rintro en w23 ⟨rfl, x23⟩)
        | (go_at_call 14; refine (num_calls _ _).mono ?_; rintro en w9 ⟨rfl, rfl⟩))
      go_ret
      exact ⟨rfl, b22.trans (x23.mono b22.size)⟩
    · obtain ⟨v', n', r', h', k', f', e', hv, hc, hm', he, n8'⟩ := dec_yes hd
      rw [hv, hc] at D
      have C := encC_yes hm'
      clear hd hv hc hm'
      go_upto_region 13 with (go_at_call 19; refine D.mono ?_; rintro en w21 ⟨rfl, x21⟩)
      have y21 := below1 w21 (.cells #[.int .i64 v', .int .i64 n', .int .i64 r', .int .i64 h', .int .i64 k', .int .i64 f', .int .i64 e'] 23)
      have p22 := (HC.new w21 v' n' r' h' k' f' e').at_
      have b22 := b3.trans ((x21.trans (y21.mono x21.size)).mono b3.size)
      clear D x21 y21 h20
      generalize w21.alloc (.cells #[.int .i64 v', .int .i64 n', .int .i64 r', .int .i64 h', .int .i64 k', .int .i64 f', .int .i64 e'] 23) = w22 at *
      generalize w21.heap.size = g22 at *
      clear w21
      obtain ⟨j0, j1, j2, j3, j4, j5, j6, j7⟩ := p22
      have E := Encode_any v' n' r' h' k' f' e' w22 n8' (hM.below b22)
      rw [C, he] at E
      clear C he
      go_upto_region 17 with (first
        | (go_at_call 11; refine E.mono ?_; rintro en w23 ⟨A23, n23, c23, rfl, r23, x23⟩)
        | (go_at_call 14; refine (num_calls _ _).mono ?_; rintro en w9 ⟨rfl, rfl⟩))
      have b23 := b22.trans (x23.mono b22.size)
      have h23 := hx.below b23
      clear x23 b22 j0 j1 j2 j3 j4 j5 j6 j7
      go_wp2_with (first
        | (go_at_call 13; refine (SameBytes_calls _ _ _ _ _ _ _ _ _ r23 h23 true (by simp)).mono ?_; rintro en w24 ⟨rfl, rfl⟩)
        | (go_at_call 14; refine (num_calls _ _).mono ?_; rintro en w9 ⟨rfl, rfl⟩))
      go_ret
      exact ⟨rfl, b23⟩
  · rw [encC_yes hm]
    have hl := r3.len
    rw [(decV_encR hm).2.2] at hl
    obtain rfl : n3 = 4092 := hl.symm
    have D := Decode_any _ _ _ _ _ r3 (hM.below b3)
    rw [(decV_encR hm).1, (decV_encR hm).2.1] at D
    clear hl hm r3
    go_upto_region 7 with (first
      | (go_at_call 19; refine D.mono ?_; rintro en w4 ⟨rfl, x4⟩)
      | (go_at_call 14; refine (num_calls _ _).mono ?_; rintro en w9 ⟨rfl, rfl⟩))
    have y4 := below1 w4 (.cells #[.int .i64 v, .int .i64 n, .int .i64 r, .int .i64 h, .int .i64 k, .int .i64 f, .int .i64 e] 23)
    have p5 := (HC.new w4 v n r h k f e).at_
    have x5 := x4.trans (y4.mono x4.size)
    have q5 := q3.below x5
    have b5 := b3.trans (x5.mono b3.size)
    clear D x4 y4 x5 q3 b3
    generalize w4.alloc (.cells #[.int .i64 v, .int .i64 n, .int .i64 r, .int .i64 h, .int .i64 k, .int .i64 f, .int .i64 e] 23) = w5 at *
    generalize w4.heap.size = g5 at *
    clear w4 w3
    obtain ⟨i0, i1, i2, i3, i4, i5, i6, i7⟩ := q5
    obtain ⟨j0, j1, j2, j3, j4, j5, j6, j7⟩ := p5
    go_upto_region 8 with (go_at_call 20; refine (SameHead_calls _ _ _ _ _ _ _ _).mono ?_; rintro en w7 ⟨rfl, x7⟩)
    have b7 := b5.trans (x7.mono b5.size)
    clear i0 i1 i2 i3 i4 i5 i6 i7 j0 j1 j2 j3 j4 j5 j6 j7 x7 b5 w5
    go_upto_region 12 with (go_at_call 14; refine (num_calls _ _).mono ?_; rintro en w9 ⟨rfl, rfl⟩)
    have h20 := hx.below b7
    have D := Decode_any _ _ _ _ _ h20 (hM.below b7)
    cases hd : decOk xs
    · rw [(dec_no hd).1, (dec_no hd).2] at D
      unfold zeroHead at D
      clear hd
      go_upto_region 13 with (go_at_call 19; refine D.mono ?_; rintro en w21 ⟨rfl, x21⟩)
      have y21 := below1 w21 (.cells #[.int .i64 0, .int .i64 0, .int .i64 0, .int .i64 0, .int .i64 0, .int .i64 0, .int .i64 0] 23)
      have p22 := (HC.new w21 0 0 0 0 0 0 0).at_
      have b22 := b7.trans ((x21.trans (y21.mono x21.size)).mono b7.size)
      clear D x21 y21 h20
      generalize w21.alloc (.cells #[.int .i64 0, .int .i64 0, .int .i64 0, .int .i64 0, .int .i64 0, .int .i64 0, .int .i64 0] 23) = w22 at *
      generalize w21.heap.size = g22 at *
      clear w21
      obtain ⟨j0, j1, j2, j3, j4, j5, j6, j7⟩ := p22
      go_wp2_with (first
        | (go_at_call 20; refine (SameHead_calls _ _ _ _ _ _ _ _).mono ?_; rintro en w23 ⟨rfl, x23⟩)
        | (go_at_call 14; refine (num_calls _ _).mono ?_; rintro en w9 ⟨rfl, rfl⟩))
      go_ret
      exact ⟨rfl, b22.trans (x23.mono b22.size)⟩
    · obtain ⟨v', n', r', h', k', f', e', hv, hc, hm', he, n8'⟩ := dec_yes hd
      rw [hv, hc] at D
      have C := encC_yes hm'
      clear hd hv hc hm'
      go_upto_region 13 with (go_at_call 19; refine D.mono ?_; rintro en w21 ⟨rfl, x21⟩)
      have y21 := below1 w21 (.cells #[.int .i64 v', .int .i64 n', .int .i64 r', .int .i64 h', .int .i64 k', .int .i64 f', .int .i64 e'] 23)
      have p22 := (HC.new w21 v' n' r' h' k' f' e').at_
      have b22 := b7.trans ((x21.trans (y21.mono x21.size)).mono b7.size)
      clear D x21 y21 h20
      generalize w21.alloc (.cells #[.int .i64 v', .int .i64 n', .int .i64 r', .int .i64 h', .int .i64 k', .int .i64 f', .int .i64 e'] 23) = w22 at *
      generalize w21.heap.size = g22 at *
      clear w21
      obtain ⟨j0, j1, j2, j3, j4, j5, j6, j7⟩ := p22
      have E := Encode_any v' n' r' h' k' f' e' w22 n8' (hM.below b22)
      rw [C, he] at E
      clear C he
      go_upto_region 17 with (first
        | (go_at_call 11; refine E.mono ?_; rintro en w23 ⟨A23, n23, c23, rfl, r23, x23⟩)
        | (go_at_call 14; refine (num_calls _ _).mono ?_; rintro en w9 ⟨rfl, rfl⟩))
      have b23 := b22.trans (x23.mono b22.size)
      have h23 := hx.below b23
      clear x23 b22 j0 j1 j2 j3 j4 j5 j6 j7
      go_wp2_with (first
        | (go_at_call 13; refine (SameBytes_calls _ _ _ _ _ _ _ _ _ r23 h23 true (by simp)).mono ?_; rintro en w24 ⟨rfl, rfl⟩)
        | (go_at_call 14; refine (num_calls _ _).mono ?_; rintro en w9 ⟨rfl, rfl⟩))
      go_ret
      exact ⟨rfl, b23⟩
end Go.Proofs.YtgajlippppebpaaDoor
