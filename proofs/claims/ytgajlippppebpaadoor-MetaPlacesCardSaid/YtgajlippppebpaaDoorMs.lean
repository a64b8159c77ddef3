/- The walk of the law MetaPlaces. -/
import Derived.Test.YtgajlippppebpaaDoorMr
namespace Go.Proofs.YtgajlippppebpaaDoor
open Go.RowKit

def T0 : List UInt8 := zeros 4051 ++ [101, 110, 100, 46]
def P0 : List UInt8 := [5, 99, 111, 112]
/-- The body with its first i numbers struck out. -/
def clrL (v n r h k f e : Nat) : Nat → List UInt8
  | 0 => P0 ++ (zeros 0 ++ (leB v 8 ++ (leB n 4 ++ (leB r 4 ++ (leB h 1 ++ (leB k 8 ++ (leB f 4 ++ (leB e 4 ++ T0))))))))
  | 1 => P0 ++ (zeros 8 ++ (leB n 4 ++ (leB r 4 ++ (leB h 1 ++ (leB k 8 ++ (leB f 4 ++ (leB e 4 ++ T0)))))))
  | 2 => P0 ++ (zeros 12 ++ (leB r 4 ++ (leB h 1 ++ (leB k 8 ++ (leB f 4 ++ (leB e 4 ++ T0))))))
  | 3 => P0 ++ (zeros 16 ++ (leB h 1 ++ (leB k 8 ++ (leB f 4 ++ (leB e 4 ++ T0)))))
  | 4 => P0 ++ (zeros 17 ++ (leB k 8 ++ (leB f 4 ++ (leB e 4 ++ T0))))
  | 5 => P0 ++ (zeros 25 ++ (leB f 4 ++ (leB e 4 ++ T0)))
  | 6 => P0 ++ (zeros 29 ++ (leB e 4 ++ T0))
  | _ => P0 ++ (zeros 33 ++ T0)
def atC : List Value := [.int .i64 4, .int .i64 12, .int .i64 16, .int .i64 20, .int .i64 21, .int .i64 29, .int .i64 33]
def wideC : List Value := [.int .i64 8, .int .i64 4, .int .i64 4, .int .i64 1, .int .i64 8, .int .i64 4, .int .i64 4]
def wantC (v n r h k f e : Nat) : List Value := [.int .i64 (v : Int), .int .i64 (n : Int), .int .i64 (r : Int), .int .i64 (h : Int), .int .i64 (k : Int), .int .i64 (f : Int), .int .i64 (e : Int)]
theorem clr_body (v n r h k f e : Nat) : bodyB v n r h k f e = clrL v n r h k f e 0 := by
  unfold bodyB headB clrL P0 T0 zeros
  simp only [List.append_assoc, List.replicate_zero, List.nil_append]
theorem zeros_add (a b : Nat) : zeros a ++ zeros b = zeros (a + b) := by unfold zeros; exact List.replicate_append_replicate
/-- What round i meets. -/
structure Fld (v n r h k f e i p W num : Nat) (P F S : List UInt8) : Prop where
  aa : atC[i]? = some (.int .i64 (p : Int))
  ww : wideC[i]? = some (.int .i64 (W : Int))
  nn : (wantC v n r h k f e)[i]? = some (.int .i64 (num : Int))
  pl : P.length = p
  fd : F = leB num W
  w1 : 1 ≤ W
  w8 : W ≤ 8
  pw : p + W ≤ 4088
  big : num ≤ 4611686018427387904
  lt : num < 256 ^ W
  now : clrL v n r h k f e i = P ++ (F ++ S)
  next : clrL v n r h k f e (i + 1) = P ++ (zeros W ++ S)
theorem field_at (v n r h k f e : Nat) (hm : mayB v n r h k f e = true) (i : Nat) (hi : i < 7) : ∃ p W num P F S, Fld v n r h k f e i p W num P F S := by
  have b := mayB_bounds hm
  have p1 : 256 ^ 1 = 256 := by decide
  have p4 : 256 ^ 4 = 4294967296 := by decide
  have p8 : 256 ^ 8 = 18446744073709551616 := by decide
  match i, hi with
  | 0, _ => exact ⟨4, 8, v, P0 ++ zeros 0, leB v 8, (leB n 4 ++ (leB r 4 ++ (leB h 1 ++ (leB k 8 ++ (leB f 4 ++ (leB e 4 ++ T0)))))), rfl, rfl, rfl, by rw [List.length_append, zeros_length]; rfl, rfl, by decide, by decide, by decide, by omega, by omega, (List.append_assoc _ _ _).symm, by rw [List.append_assoc, ← List.append_assoc (zeros 0), zeros_add]; rfl⟩
  | 1, _ => exact ⟨12, 4, n, P0 ++ zeros 8, leB n 4, (leB r 4 ++ (leB h 1 ++ (leB k 8 ++ (leB f 4 ++ (leB e 4 ++ T0))))), rfl, rfl, rfl, by rw [List.length_append, zeros_length]; rfl, rfl, by decide, by decide, by decide, by omega, by omega, (List.append_assoc _ _ _).symm, by rw [List.append_assoc, ← List.append_assoc (zeros 8), zeros_add]; rfl⟩
  | 2, _ => exact ⟨16, 4, r, P0 ++ zeros 12, leB r 4, (leB h 1 ++ (leB k 8 ++ (leB f 4 ++ (leB e 4 ++ T0)))), rfl, rfl, rfl, by rw [List.length_append, zeros_length]; rfl, rfl, by decide, by decide, by decide, by omega, by omega, (List.append_assoc _ _ _).symm, by rw [List.append_assoc, ← List.append_assoc (zeros 12), zeros_add]; rfl⟩
  | 3, _ => exact ⟨20, 1, h, P0 ++ zeros 16, leB h 1, (leB k 8 ++ (leB f 4 ++ (leB e 4 ++ T0))), rfl, rfl, rfl, by rw [List.length_append, zeros_length]; rfl, rfl, by decide, by decide, by decide, by omega, by omega, (List.append_assoc _ _ _).symm, by rw [List.append_assoc, ← List.append_assoc (zeros 16), zeros_add]; rfl⟩
  | 4, _ => exact ⟨21, 8, k, P0 ++ zeros 17, leB k 8, (leB f 4 ++ (leB e 4 ++ T0)), rfl, rfl, rfl, by rw [List.length_append, zeros_length]; rfl, rfl, by decide, by decide, by decide, by omega, by omega, (List.append_assoc _ _ _).symm, by rw [List.append_assoc, ← List.append_assoc (zeros 17), zeros_add]; rfl⟩
  | 5, _ => exact ⟨29, 4, f, P0 ++ zeros 25, leB f 4, (leB e 4 ++ T0), rfl, rfl, rfl, by rw [List.length_append, zeros_length]; rfl, rfl, by decide, by decide, by decide, by omega, by omega, (List.append_assoc _ _ _).symm, by rw [List.append_assoc, ← List.append_assoc (zeros 25), zeros_add]; rfl⟩
  | 6, _ => exact ⟨33, 4, e, P0 ++ zeros 29, leB e 4, T0, rfl, rfl, rfl, by rw [List.length_append, zeros_length]; rfl, rfl, by decide, by decide, by decide, by omega, by omega, (List.append_assoc _ _ _).symm, by rw [List.append_assoc, ← List.append_assoc (zeros 29), zeros_add]; rfl⟩
/-- One byte of a number: what stands there, and the list behind its striking. -/
theorem strike {P F S ys : List UInt8} {p W m : Nat} (hp : P.length = p) (hF : F.length = W) (hm : m < W) (hys : ys = P ++ (F.take (m + 1) ++ (zeros (W - (m + 1)) ++ S))) :
    ys.getD (p + m) 1 = F.getD m 1 ∧ ys.set (p + m) 0 = P ++ (F.take m ++ (zeros (W - m) ++ S)) := by
  have hm' : m < F.length := by omega
  have e1 : F.take (m + 1) = F.take m ++ [F[m]] := (List.take_append_getElem hm').symm
  have e2 : zeros (W - m) = 0 :: zeros (W - (m + 1)) := by
    unfold zeros
    rw [show W - m = (W - (m + 1)) + 1 by omega, List.replicate_succ]
  have e3 : ys = (P ++ F.take m) ++ (F[m] :: (zeros (W - (m + 1)) ++ S)) := by
    rw [hys, e1]; simp only [List.append_assoc, List.cons_append, List.nil_append]
  have e4 : (P ++ F.take m).length = p + m := by rw [List.length_append, List.length_take, hp]; omega
  constructor
  · rw [e3, List.getD_eq_getElem?_getD, List.getElem?_append_right (by omega), e4, Nat.sub_self, List.getD_eq_getElem?_getD, List.getElem?_eq_getElem hm']
    rfl
  · rw [e3, List.set_append_right _ _ (by omega), e4, Nat.sub_self, List.set_cons_zero, e2]
    simp only [List.append_assoc, List.cons_append]
theorem unle_drop_le (l : List UInt8) (k : Nat) : unle (l.drop k) ≤ unle l := by
  induction l generalizing k with
  | nil => simp [unle]
  | cons b l ih =>
    cases k with
    | zero => exact Nat.le_refl _
    | succ k => have := ih k; rw [List.drop_succ_cons, unle]; omega
theorem cleared (v n r h k f e : Nat) : clrL v n r h k f e 7 = P0 ++ (zeros 4084 ++ [101, 110, 100, 46]) := by
  show P0 ++ (zeros 33 ++ T0) = _
  unfold T0
  rw [← List.append_assoc (zeros 33), zeros_add]
theorem cleared_zero {ys : List UInt8} (h : ys = P0 ++ (zeros 4084 ++ [101, 110, 100, 46])) (i : Nat) (h1 : 4 ≤ i) (h2 : i < 4088) : ys.getD i 0 = 0 := by
  have hp : P0.length = 4 := rfl
  rw [h, List.getD_eq_getElem?_getD, List.getElem?_append_right (by omega), List.getElem?_append_left (by rw [zeros_length]; omega)]
  unfold zeros
  rw [List.getElem?_replicate]
  split <;> rfl
theorem cleared_take {ys : List UInt8} (h : ys = P0 ++ (zeros 4084 ++ [101, 110, 100, 46])) : ys.take 4 = [5, 99, 111, 112] := by
  rw [h]; exact List.take_left' rfl
theorem cleared_drop {ys : List UInt8} (h : ys = P0 ++ (zeros 4084 ++ [101, 110, 100, 46])) : ys.drop 4088 = [101, 110, 100, 46] := by
  rw [h, ← List.append_assoc]
  exact List.drop_left' (by rw [List.length_append, zeros_length]; rfl)
theorem ints_new (w : World) (cs : List Value) (n : Nat) (hn : cs.length = n) (h1 : n ≤ 100) : OC (w.alloc (.cells cs.toArray 3)) 3 1 w.heap.size n n cs :=
  OC.mk (by omega) _ (heap_alloc_new w _) (Nat.le_refl _) (by rw [maxLen_is]; omega) (by simp [hn]) (by rw [Nat.mul_one]; exact List.take_of_length_le (by simp [hn]))
theorem mul_wrap {x b n : Nat} (h : b + 256 * x ≤ n) (hn : n ≤ 4611686018427387904) : IntKind.i64.wrap ((x : Int) * 256) = (x : Int) * 256 ∧ IntKind.i64.wrap ((x : Int) * 256 + (b : Int)) = ((b + 256 * x : Nat) : Int) := by
  rw [IntKind.wrap_i64, IntKind.wrap_i64]; omega

set_option maxRecDepth 100000 in
set_option maxHeartbeats 4000000 in
theorem MetaPlaces_walk (v n r h k f e : Int) (w : World) (_hq : I64 v ∧ I64 n ∧ I64 r ∧ I64 h ∧ I64 k ∧ I64 f ∧ I64 e) (hM : Marks w) :
    Calls Tryd.prog 9 #[.agg #[.int .i64 v, .int .i64 n, .int .i64 r, .int .i64 h, .int .i64 k, .int .i64 f, .int .i64 e]] w fun en w' => en = .returned (.bool true) ∧ Below w.heap.size w w' := by
  clear _hq
  cases hm : mayB v n r h k f e
  · have hb1 := below1 w (.cells #[.int .i64 v, .int .i64 n, .int .i64 r, .int .i64 h, .int .i64 k, .int .i64 f, .int .i64 e] 23)
    have q1 := (HC.new w v n r h k f e).at_
    have HM := hideIt hm
    clear hm
    go_enter Tryd.func9, Tryd.ntmps9
    go_upto_region 1 with fail
    generalize w.alloc (.cells #[.int .i64 v, .int .i64 n, .int .i64 r, .int .i64 h, .int .i64 k, .int .i64 f, .int .i64 e] 23) = w1 at *
    go_upto_region 2 with (go_at_call 10; refine (first_calls _ (hM.below hb1)).mono ?_; rintro en w2 ⟨rfl, x2⟩)
    have q2 := q1.below x2
    have b2 := hb1.trans (x2.mono hb1.size)
    clear x2 q1 hb1 w1
    obtain ⟨i0, i1, i2, i3, i4, i5, i6, i7⟩ := q2
    go_wp2_with (go_at_call 21; refine (refMay_calls _ _ _ _ _ _ _ _).mono ?_; rintro en w3 ⟨rfl, x3⟩; rw [HM.out])
    go_ret
    exact ⟨rfl, b2.trans (x3.mono b2.size)⟩
  have bm := mayB_bounds hm
  obtain ⟨v, rfl⟩ : ∃ m : Nat, v = m := ⟨v.toNat, by omega⟩
  obtain ⟨n, rfl⟩ : ∃ m : Nat, n = m := ⟨n.toNat, by omega⟩
  obtain ⟨r, rfl⟩ : ∃ m : Nat, r = m := ⟨r.toNat, by omega⟩
  obtain ⟨h, rfl⟩ : ∃ m : Nat, h = m := ⟨h.toNat, by omega⟩
  obtain ⟨k, rfl⟩ : ∃ m : Nat, k = m := ⟨k.toNat, by omega⟩
  obtain ⟨f, rfl⟩ : ∃ m : Nat, f = m := ⟨f.toNat, by omega⟩
  obtain ⟨e, rfl⟩ : ∃ m : Nat, e = m := ⟨e.toNat, by omega⟩
  clear bm
  have hb1 := below1 w (.cells #[.int .i64 v, .int .i64 n, .int .i64 r, .int .i64 h, .int .i64 k, .int .i64 f, .int .i64 e] 23)
  have q1 := (HC.new w v n r h k f e).at_
  have HM := hideIt hm
  clear hm
  go_enter Tryd.func9, Tryd.ntmps9
  go_upto_region 1 with fail
  generalize w.alloc (.cells #[.int .i64 v, .int .i64 n, .int .i64 r, .int .i64 h, .int .i64 k, .int .i64 f, .int .i64 e] 23) = w1 at *
  go_upto_region 2 with (go_at_call 10; refine (first_calls _ (hM.below hb1)).mono ?_; rintro en w2 ⟨rfl, x2⟩)
  have q2 := q1.below x2
  have b2 := hb1.trans (x2.mono hb1.size)
  clear x2 q1 hb1 w1
  obtain ⟨i0, i1, i2, i3, i4, i5, i6, i7⟩ := q2
  have q2 : HdAt w2 w.heap.size v n r h k f e := ⟨i0, i1, i2, i3, i4, i5, i6, i7⟩
  go_upto_region 5 with (go_at_call 21; refine (refMay_calls _ _ _ _ _ _ _ _).mono ?_; rintro en w3 ⟨rfl, x3⟩; rw [HM.out])
  have q3 := q2.below x3
  have b3 := b2.trans (x3.mono b2.size)
  clear x3 q2 b2 i0 i1 i2 i3 i4 i5 i6 i7 w2
  obtain ⟨i0, i1, i2, i3, i4, i5, i6, i7⟩ := q3
  have q3 : HdAt w3 w.heap.size v n r h k f e := ⟨i0, i1, i2, i3, i4, i5, i6, i7⟩
  go_upto_region 6 with (go_at_call 11; refine (Encode_nat _ _ _ _ _ _ _ _ HM.out (hM.below b3)).mono ?_; rintro en w4 ⟨g, rfl, s4, o4, x4⟩)
  have q4 := q3.below x4
  have b4 := b3.trans (x4.mono b3.size)
  have gw := Nat.le_trans b3.size s4
  clear x4 s4 b3 q3 i0 i1 i2 i3 i4 i5 i6 i7 w3
  go_upto_region 8 with (go_at_call 14; refine (num_calls _ _).mono ?_; rintro en w9 ⟨rfl, rfl⟩)
  have oA := ints_new w4 atC 7 rfl (by decide)
  have xA := below1 w4 (.cells atC.toArray 3)
  have oW := ints_new (w4.alloc (.cells atC.toArray 3)) wideC 7 rfl (by decide)
  have xW := below1 (w4.alloc (.cells atC.toArray 3)) (.cells wideC.toArray 3)
  rw [show (w4.alloc (.cells atC.toArray 3)).heap.size = w4.heap.size + 1 by simp] at oW xW
  have oA2 : OC ((w4.alloc (.cells atC.toArray 3)).alloc (.cells wideC.toArray 3)) 3 1 w4.heap.size 7 7 atC := oA.same (Sm.alloc _ _ oA.lt)
  have x5 : Below w4.heap.size w4 ((w4.alloc (.cells atC.toArray 3)).alloc (.cells wideC.toArray 3)) := xA.trans (xW.mono (by omega))
  have q5 := q4.below x5
  have o5 := o4.below x5
  have b5 := b4.trans (x5.mono b4.size)
  have gA : w4.heap.size ≠ g := fun q => by have := o4.lt; omega
  have gW : w4.heap.size + 1 ≠ g := fun q => by have := o4.lt; omega
  rw [show atC.toArray = #[.int .i64 4, .int .i64 12, .int .i64 16, .int .i64 20, .int .i64 21, .int .i64 29, .int .i64 33] from rfl, show wideC.toArray = #[.int .i64 8, .int .i64 4, .int .i64 4, .int .i64 1, .int .i64 8, .int .i64 4, .int .i64 4] from rfl] at oA2 oW o5 q5 b5
  clear oA xA xW x5 q4 o4 b4
  go_upto_region 10 with fail
  generalize (w4.alloc (.cells #[.int .i64 4, .int .i64 12, .int .i64 16, .int .i64 20, .int .i64 21, .int .i64 29, .int .i64 33] 3)).alloc (.cells #[.int .i64 8, .int .i64 4, .int .i64 4, .int .i64 1, .int .i64 8, .int .i64 4, .int .i64 4] 3) = w5 at *
  generalize hA : w4.heap.size = ga at *
  generalize hW : ga + 1 = gw5 at *
  clear w4 hA hW
  have oN := ints_new w5 (wantC v n r h k f e) 7 rfl (by decide)
  have x6 := below1 w5 (.cells (wantC v n r h k f e).toArray 3)
  have oA6 := oA2.below x6
  have oW6 := oW.below x6
  have o6 := o5.below x6
  have b6 := b5.trans (x6.mono b5.size)
  have gN : w5.heap.size ≠ g := fun q => by have := o5.lt; omega
  rw [show (wantC v n r h k f e).toArray = #[.int .i64 v, .int .i64 n, .int .i64 r, .int .i64 h, .int .i64 k, .int .i64 f, .int .i64 e] from rfl] at oN oA6 oW6 o6 b6
  obtain ⟨i0, i1, i2, i3, i4, i5, i6, i7⟩ := q5
  clear oA2 oW o5 b5 x6
  go_upto_region 12 with fail
  clear i0 i1 i2 i3 i4 i5 i6 i7
  generalize w5.alloc (.cells #[.int .i64 v, .int .i64 n, .int .i64 r, .int .i64 h, .int .i64 k, .int .i64 f, .int .i64 e] 3) = w6 at *
  generalize w5.heap.size = gn at *
  clear w5 hM
  rw [clr_body] at o6
  go_loopw [10] (fun ii wr => ∃ (i : Nat) (ys : List UInt8), i ≤ 7 ∧ ii = .int .i64 (i : Int) ∧ OB wr g 4092 4092 ys ∧ Hid (ys = clrL v n r h k f e i) ∧ OC wr 3 1 ga 7 7 atC ∧ OC wr 3 1 gw5 7 7 wideC ∧ OC wr 3 1 gn 7 7 (wantC v n r h k f e) ∧ Below w.heap.size w wr)
    (fun ii _ => 7 - (intOf ii).toNat)
  case atStart => exact ⟨0, _, by omega, rfl, o6, hideIt rfl, oA6, oW6, oN, b6⟩
  case round =>
    obtain ⟨i, ys, hi, rfl, oy, HY, cA, cW, cN, by_⟩ := hrel
    by_cases hlt : i < 7
    · obtain ⟨p, W, num, P, F, S, fa, fw, fn, fpl, ffd, fw1, fw8, fpw, fbig, flt, fnow, fnext⟩ := field_at v n r h k f e HM.out i hlt
      have aA := OC.cell cA i _ fa
      have aW := OC.cell cW i _ fw
      have hFl : F.length = W := by rw [ffd, leB_length]
      have hU : unle F = num := by rw [ffd, unle_leB, Nat.mod_eq_of_lt flt]
      have HY2 : Hid (ys = P ++ (F.take W ++ (zeros (W - W) ++ S))) := by
        unfold Hid
        rw [HY.out, fnow, Nat.sub_self, List.take_of_length_le (by omega)]
        rfl
      have HF := hideIt hFl
      have HU := hideIt hU
      have HP := hideIt fpl
      have HB := hideIt fbig
      have HN := hideIt fnext
      have HFN := hideIt fn
      have HA := hideIt fa
      have hWi : (1 : Int) ≤ (W : Int) := by omega
      have hWj : (W : Int) ≤ 8 := by omega
      clear fa fw fn fpl ffd flt fnow fnext fbig hFl hU HY
      go_wp2
      go_loopw [11, 12] (fun xx kk w2 => ∃ (m x : Nat) (ki : Int) (zs : List UInt8), m ≤ W ∧ ki = (m : Int) - 1 ∧ xx = .int .i64 (x : Int) ∧ kk = .int .i64 ki ∧ Hid (x = unle (F.drop m)) ∧ OB w2 g 4092 4092 zs ∧ Hid (zs = P ++ (F.take m ++ (zeros (W - m) ++ S))) ∧ OC w2 3 1 ga 7 7 atC ∧ OC w2 3 1 gw5 7 7 wideC ∧ OC w2 3 1 gn 7 7 (wantC v n r h k f e) ∧ Below w.heap.size w w2)
        (fun _ kk _ => (intOf kk + 1).toNat)
      case atStart => exact ⟨W, 0, _, ys, Nat.le_refl _, rfl, rfl, by go_num, by unfold Hid; rw [List.drop_of_length_le (by rw [HF.out]; exact Nat.le_refl _)]; rfl, oy, HY2, cA, cW, cN, by_⟩
      case round =>
        clear aA aW oy HY2 cA cW cN by_
        obtain ⟨m, x, ki, zs, hm, hki, rfl, rfl, HX, oz, HZ, cA, cW, cN, bz⟩ := hrel
        have aA := OC.cell cA i _ HA.out
        rcases Nat.eq_zero_or_pos m with h0 | h0
        · subst h0
          obtain rfl : ki = -1 := by omega
          clear hki
          have aN := OC.cell cN i _ HFN.out
          have hxx : x = num := by rw [HX.out, List.drop_zero, HU.out]
          subst hxx
          have HE : Hid (zs = clrL v n r h k f e (i + 1)) := by
            unfold Hid
            rw [HN.out, HZ.out, List.take_zero, Nat.sub_zero]
            rfl
          go_wp2
          go_roundw
          case rel => exact ⟨i + 1, zs, by omega, by go_num, oz, HE, cA, cW, cN, bz⟩
          case measure => simp [intOf]; omega
        · obtain ⟨m, rfl⟩ : ∃ j, m = j + 1 := ⟨m - 1, by omega⟩
          obtain rfl : ki = (m : Int) := by omega
          clear hki h0
          have st := strike HP.out HF.out (by omega) HZ.out
          have hq : p + m < 4092 := by omega
          obtain ⟨b, hb⟩ : ∃ b, zs.getD (p + m) 0 = b := ⟨_, rfl⟩
          have cb := byte_cell oz hq (hideIt hb)
          have fb := oz.free (p + m)
          have oz2 := oz.set (p + m) 0
          have bz2 := bz.setCell (p := ⟨g, p + m, none⟩) gw (.int .u8 0)
          have hbF : F.getD m 1 = b := by
            rw [← st.1, ← hb]
            have := oz.len
            rw [List.getD_eq_getElem?_getD, List.getD_eq_getElem?_getD, List.getElem?_eq_getElem (by omega)]
            rfl
          have hmF : m < F.length := by rw [HF.out]; omega
          have und := unle_drop F m hmF
          have hbF2 : F[m] = b := by rw [← hbF, List.getD_eq_getElem?_getD, List.getElem?_eq_getElem hmF]; rfl
          rw [hbF2, ← HX.out] at und
          have le1 := unle_drop_le F m
          rw [und, HU.out] at le1
          have mw := mul_wrap le1 HB.out
          have HX2 : Hid (b.toNat + 256 * x = unle (F.drop m)) := hideIt und.symm
          have HZ2 : Hid (zs.set (p + m) 0 = P ++ (F.take m ++ (zeros (W - m) ++ S))) := hideIt st.2
          have m1 := mw.1
          have m2 := mw.2
          have m3 : IntKind.i64.wrap (b.toNat : Int) = (b.toNat : Int) := wrap_small (Nat.lt_of_lt_of_le b.toNat_lt (by decide))
          have j1 : IntKind.i64.wrap ((p : Int) + (m : Int)) = (p : Int) + (m : Int) := by rw [IntKind.wrap_i64]; omega
          have j2 : (0 : Int) ≤ (p : Int) + (m : Int) := by omega
          have j3 : (p : Int) + (m : Int) < 4092 := by omega
          have j4 : ((p : Int) + (m : Int)).toNat = p + m := by omega
          have cA2 := cA.same (Sm.setCell wr ⟨g, p + m, none⟩ (.int .u8 0) gA)
          have cW2 := cW.same (Sm.setCell wr ⟨g, p + m, none⟩ (.int .u8 0) gW)
          have cN2 := cN.same (Sm.setCell wr ⟨g, p + m, none⟩ (.int .u8 0) gN)
          clear st hb hbF hbF2 und le1 mw hmF
          go_wp2
          go_roundw
          case rel => exact ⟨m, _, _, _, by omega, by go_num, congrArg (Value.int .i64) (by omega), rfl, HX2, oz2, HZ2, cA2, cW2, cN2, bz2⟩
          case measure => simp [intOf]
    · obtain rfl : i = 7 := by omega
      have HZ : Hid (ys = P0 ++ (zeros 4084 ++ [101, 110, 100, 46])) := by unfold Hid; rw [HY.out, cleared]
      clear HY cA cW cN oA6 oW6 oN o6 b6
      go_wp2
      go_loopw [13, 14] (fun ss ii w2 => ∃ (j : Nat), 4 ≤ j ∧ j ≤ 4088 ∧ ss = .int .i64 0 ∧ ii = .int .i64 (j : Int) ∧ wr = w2)
        (fun _ ii _ => 4088 - (intOf ii).toNat)
      case atStart => exact ⟨4, by omega, by omega, rfl, rfl, by trivial⟩
      case round =>
        obtain ⟨j, hj4, hj, rfl, rfl, rfl⟩ := hrel
        by_cases hl2 : j < 4088
        · have cb : wr.cell? ⟨g, j, none⟩ = some (.int .u8 0) := byte_cell oy (by omega) (hideIt (cleared_zero HZ.out j hj4 hl2))
          go_wp2
          go_roundw
          case rel => exact ⟨j + 1, by omega, by omega, rfl, by go_num, by trivial⟩
          case measure => simp [intOf]; omega
        · obtain rfl : j = 4088 := by omega
          have r0 := oy.read
          have l1 := lit_read wr [5, 99, 111, 112] 4 (0, 0) 5 rfl (by decide)
          have x1 := below1 wr (.cells (u8s [5, 99, 111, 112]).toArray 5)
          rw [show (u8s [5, 99, 111, 112]).toArray = #[.int .u8 5, .int .u8 99, .int .u8 111, .int .u8 112] from rfl] at l1 x1
          have r1 := r0.below x1
          have b1 := by_.trans (x1.mono by_.size)
          have t1 := r1.take 4 (by decide)
          rw [cleared_take HZ.out] at t1
          clear x1 r0
          go_upto_region 28 with (go_at_call 13; refine (SameBytes_calls _ _ _ _ _ _ _ _ _ t1 l1 true (by decide)).mono ?_; rintro en w8 ⟨rfl, rfl⟩)
          clear t1 l1
          generalize wr.alloc (.cells #[.int .u8 5, .int .u8 99, .int .u8 111, .int .u8 112] 5) = w8 at *
          have l2 := lit_read w8 [101, 110, 100, 46] 4 (0, 0) 5 rfl (by decide)
          have x2 := below1 w8 (.cells (u8s [101, 110, 100, 46]).toArray 5)
          rw [show (u8s [101, 110, 100, 46]).toArray = #[.int .u8 101, .int .u8 110, .int .u8 100, .int .u8 46] from rfl] at l2 x2
          have r2 := r1.below x2
          have b2 := b1.trans (x2.mono b1.size)
          have t2 : RB (w8.alloc (.cells #[.int .u8 101, .int .u8 110, .int .u8 100, .int .u8 46] 5)) (some ⟨g, 4088, none⟩) 4 4 [101, 110, 100, 46] := by
            have h2 := r2.cut (A' := some ⟨g, 4088, none⟩) 4088 4092 4092 (by omega) (Nat.le_refl _) (Nat.le_refl _) (Nat.le_refl _) (fun _ => by simp [Addr.add]) (fun e => by cases e)
            rw [cleared_drop HZ.out] at h2
            exact h2
          go_wp2_with (go_at_call 13; refine (SameBytes_calls _ _ _ _ _ _ _ _ _ t2 l2 true (by decide)).mono ?_; rintro en w9 ⟨rfl, rfl⟩)
          go_ret
          exact ⟨rfl, b2⟩
end Go.Proofs.YtgajlippppebpaaDoor
