/- Plain laws of a head's body: its numbers, there and back. No walk. -/
import Derived.Test.YtenalocpmigppaaGreatDoorMb
import Derived.Test.YtenalocpmigppaaGreatDoorMe
import Derived.Test.YtenalocpmigppaaGreatDoorWa
namespace Go.Proofs.YtenalocpmigppaaGreatDoor
open Go.RowKit

/-- The first 37 bytes of a head's body. -/
def headB (v n r h k f e : Nat) : List UInt8 := [5, 99, 111, 112] ++ leB v 8 ++ leB n 4 ++ leB r 4 ++ leB h 1 ++ leB k 8 ++ leB f 4 ++ leB e 4
theorem headB_length (v n r h k f e : Nat) : (headB v n r h k f e).length = 37 := by simp [headB, leB_length]
def bodyB (v n r h k f e : Nat) : List UInt8 := headB v n r h k f e ++ zeros 4051 ++ [101, 110, 100, 46]
theorem bodyB_length (v n r h k f e : Nat) : (bodyB v n r h k f e).length = 4092 := by simp [bodyB, headB_length, zeros_length]

/-- The number of w bytes at a place. -/
def numAt (B : List UInt8) (at_ w : Nat) : Nat := unle ((B.drop at_).take w)
theorem numAt_lt (B : List UInt8) (at_ w : Nat) : numAt B at_ w < 256 ^ w := by
  unfold numAt
  refine Nat.lt_of_lt_of_le (unle_lt _) (Nat.pow_le_pow_right (by decide) ?_)
  rw [List.length_take]; omega
theorem numAt_mid (a c : List UInt8) (x w at_ : Nat) (ha : a.length = at_) (hx : x < 256 ^ w) : numAt (a ++ (leB x w ++ c)) at_ w = x := by
  unfold numAt
  have e1 : (a ++ (leB x w ++ c)).drop at_ = leB x w ++ c := by rw [← ha]; exact List.drop_left
  have e2 : (leB x w ++ c).take w = leB x w := by
    have := @List.take_left _ (leB x w) c
    rwa [leB_length] at this
  rw [e1, e2, unle_leB, Nat.mod_eq_of_lt hx]

section
variable (v n r h k f e : Nat)
theorem numAt_v (hx : v < 256 ^ 8) : numAt (bodyB v n r h k f e) 4 8 = v := by
  have q : bodyB v n r h k f e = [5, 99, 111, 112] ++ (leB v 8 ++ (leB n 4 ++ leB r 4 ++ leB h 1 ++ leB k 8 ++ leB f 4 ++ leB e 4 ++ zeros 4051 ++ [101, 110, 100, 46])) := by simp only [bodyB, headB, List.append_assoc]
  rw [q]; exact numAt_mid _ _ _ _ _ rfl hx
theorem numAt_n (hx : n < 256 ^ 4) : numAt (bodyB v n r h k f e) 12 4 = n := by
  have q : bodyB v n r h k f e = ([5, 99, 111, 112] ++ leB v 8) ++ (leB n 4 ++ (leB r 4 ++ leB h 1 ++ leB k 8 ++ leB f 4 ++ leB e 4 ++ zeros 4051 ++ [101, 110, 100, 46])) := by simp only [bodyB, headB, List.append_assoc]
  rw [q]; exact numAt_mid _ _ _ _ _ (by simp [leB_length]) hx
theorem numAt_r (hx : r < 256 ^ 4) : numAt (bodyB v n r h k f e) 16 4 = r := by
  have q : bodyB v n r h k f e = ([5, 99, 111, 112] ++ leB v 8 ++ leB n 4) ++ (leB r 4 ++ (leB h 1 ++ leB k 8 ++ leB f 4 ++ leB e 4 ++ zeros 4051 ++ [101, 110, 100, 46])) := by simp only [bodyB, headB, List.append_assoc]
  rw [q]; exact numAt_mid _ _ _ _ _ (by simp [leB_length]) hx
theorem numAt_h (hx : h < 256 ^ 1) : numAt (bodyB v n r h k f e) 20 1 = h := by
  have q : bodyB v n r h k f e = ([5, 99, 111, 112] ++ leB v 8 ++ leB n 4 ++ leB r 4) ++ (leB h 1 ++ (leB k 8 ++ leB f 4 ++ leB e 4 ++ zeros 4051 ++ [101, 110, 100, 46])) := by simp only [bodyB, headB, List.append_assoc]
  rw [q]; exact numAt_mid _ _ _ _ _ (by simp [leB_length]) hx
theorem numAt_k (hx : k < 256 ^ 8) : numAt (bodyB v n r h k f e) 21 8 = k := by
  have q : bodyB v n r h k f e = ([5, 99, 111, 112] ++ leB v 8 ++ leB n 4 ++ leB r 4 ++ leB h 1) ++ (leB k 8 ++ (leB f 4 ++ leB e 4 ++ zeros 4051 ++ [101, 110, 100, 46])) := by simp only [bodyB, headB, List.append_assoc]
  rw [q]; exact numAt_mid _ _ _ _ _ (by simp [leB_length]) hx
theorem numAt_f (hx : f < 256 ^ 4) : numAt (bodyB v n r h k f e) 29 4 = f := by
  have q : bodyB v n r h k f e = ([5, 99, 111, 112] ++ leB v 8 ++ leB n 4 ++ leB r 4 ++ leB h 1 ++ leB k 8) ++ (leB f 4 ++ (leB e 4 ++ zeros 4051 ++ [101, 110, 100, 46])) := by simp only [bodyB, headB, List.append_assoc]
  rw [q]; exact numAt_mid _ _ _ _ _ (by simp [leB_length]) hx
theorem numAt_e (hx : e < 256 ^ 4) : numAt (bodyB v n r h k f e) 33 4 = e := by
  have q : bodyB v n r h k f e = ([5, 99, 111, 112] ++ leB v 8 ++ leB n 4 ++ leB r 4 ++ leB h 1 ++ leB k 8 ++ leB f 4) ++ (leB e 4 ++ (zeros 4051 ++ [101, 110, 100, 46])) := by simp only [bodyB, headB, List.append_assoc]
  rw [q]; exact numAt_mid _ _ _ _ _ (by simp [leB_length]) hx
theorem bodyB_begin : (bodyB v n r h k f e).take 4 = [5, 99, 111, 112] := by
  have q : bodyB v n r h k f e = [5, 99, 111, 112] ++ (leB v 8 ++ leB n 4 ++ leB r 4 ++ leB h 1 ++ leB k 8 ++ leB f 4 ++ leB e 4 ++ zeros 4051 ++ [101, 110, 100, 46]) := by simp only [bodyB, headB, List.append_assoc]
  rw [q]; rfl
theorem bodyB_end : (bodyB v n r h k f e).drop 4088 = [101, 110, 100, 46] := by
  have q : (headB v n r h k f e ++ zeros 4051).length = 4088 := by rw [List.length_append, headB_length, zeros_length]
  unfold bodyB
  rw [← q]; exact List.drop_left
end

/-- What the numbers of a head that may be are. -/
theorem mayB_bounds {v n r h k f e : Int} (hm : mayB v n r h k f e = true) :
    (1 ≤ v ∧ v ≤ 4611686018427387904) ∧ (2 ≤ n ∧ n ≤ 524287) ∧ (0 ≤ r ∧ r ≤ 524287) ∧ (0 ≤ h ∧ h ≤ 16) ∧ (0 ≤ k ∧ k ≤ 4294967295) ∧ (0 ≤ f ∧ f ≤ 524287) ∧ (0 ≤ e ∧ e ≤ 524287) := by
  unfold mayB numsB treeB freeB pageB at hm
  simp only [Bool.and_eq_true, decide_eq_true_eq] at hm
  obtain ⟨⟨⟨⟨h1, h2, h3, h4⟩, h5, h6⟩, h7, h8, h9, h10, h11, h12⟩, h13, h14, h15⟩ := hm
  have hw : wrap64 (n - 2) = n - 2 := by unfold wrap64; omega
  rw [hw] at h14
  omega

/-- A body that is a head's. -/
def decOk (B : List UInt8) : Bool := mayB (numAt B 4 8) (numAt B 12 4) (numAt B 16 4) (numAt B 20 1) (numAt B 21 8) (numAt B 29 4) (numAt B 33 4) && decide (bodyB (numAt B 4 8) (numAt B 12 4) (numAt B 16 4) (numAt B 20 1) (numAt B 21 8) (numAt B 29 4) (numAt B 33 4) = B)
theorem decOk_length {B : List UInt8} (h : decOk B = true) : B.length = 4092 := by
  unfold decOk at h
  rw [Bool.and_eq_true, decide_eq_true_eq] at h
  rw [← h.2, bodyB_length]
theorem decOk_begin {B : List UInt8} (h : decOk B = true) : B.take 4 = [5, 99, 111, 112] := by
  unfold decOk at h
  rw [Bool.and_eq_true, decide_eq_true_eq] at h
  rw [← h.2, bodyB_begin]
theorem decOk_end {B : List UInt8} (h : decOk B = true) : B.drop 4088 = [101, 110, 100, 46] := by
  unfold decOk at h
  rw [Bool.and_eq_true, decide_eq_true_eq] at h
  rw [← h.2, bodyB_end]
/-- The body of a head that may be is one. -/
theorem decOk_body (v n r h k f e : Nat) (hm : mayB v n r h k f e = true) : decOk (bodyB v n r h k f e) = true := by
  have b := mayB_bounds hm
  have p4 : 256 ^ 4 = 4294967296 := by decide
  have p8 : 256 ^ 8 = 18446744073709551616 := by decide
  unfold decOk
  rw [numAt_v _ _ _ _ _ _ _ (by omega), numAt_n _ _ _ _ _ _ _ (by omega), numAt_r _ _ _ _ _ _ _ (by omega), numAt_h _ _ _ _ _ _ _ (by omega), numAt_k _ _ _ _ _ _ _ (by omega), numAt_f _ _ _ _ _ _ _ (by omega), numAt_e _ _ _ _ _ _ _ (by omega), hm]
  simp

/-- What Encode answers. -/
def encC (v n r h k f e : Int) : Int := if mayB v n r h k f e then 0 else 71
def encR (v n r h k f e : Int) : List UInt8 := if mayB v n r h k f e then bodyB v.toNat n.toNat r.toNat h.toNat k.toNat f.toNat e.toNat else []
theorem encR_length (v n r h k f e : Int) : (encR v n r h k f e).length = if mayB v n r h k f e then 4092 else 0 := by
  unfold encR
  cases mayB v n r h k f e
  · rfl
  · simp [bodyB_length]

/-- Numbers turned to int as Go turns them say the same of a head. -/
theorem mayB_wrap (v k : Nat) (n r h f e : Int) (hv : v < 18446744073709551616) (hk : k < 18446744073709551616) : mayB (IntKind.i64.wrap v) n r h (IntKind.i64.wrap k) f e = mayB v n r h k f e := by
  have e1 : numsB (IntKind.i64.wrap v) n = numsB v n := by
    unfold numsB; rw [IntKind.wrap_i64, Bool.eq_iff_iff, decide_eq_true_eq, decide_eq_true_eq]; omega
  have e2 : treeB r h (IntKind.i64.wrap k) = treeB r h k := by
    unfold treeB; rw [IntKind.wrap_i64, Bool.eq_iff_iff, decide_eq_true_eq, decide_eq_true_eq]; omega
  unfold mayB
  rw [e1, e2]
theorem mayB_clamp (v k : Nat) (n r h f e : Int) : mayB (numB7 v) n r h (numB7 k) f e = mayB v n r h k f e := by
  have e1 : numsB (numB7 v) n = numsB v n := by
    unfold numsB numB7; rw [Bool.eq_iff_iff, decide_eq_true_eq, decide_eq_true_eq]; split <;> omega
  have e2 : treeB r h (numB7 k) = treeB r h k := by
    unfold treeB numB7; rw [Bool.eq_iff_iff, decide_eq_true_eq, decide_eq_true_eq]; split <;> omega
  unfold mayB
  rw [e1, e2]
theorem mayB_zero : mayB 0 0 0 0 0 0 0 = false := by decide
/-- What the two copies lay down. -/
theorem body_copies (hb : List UInt8) (hl : hb.length = 37) :
    (((zeros 4092).take 0 ++ (hb.take 37 ++ (zeros 4092).drop (0 + 37))).take 4088 ++ (([101, 110, 100, 46] : List UInt8).take 4 ++ ((zeros 4092).take 0 ++ (hb.take 37 ++ (zeros 4092).drop (0 + 37))).drop (4088 + 4))) = hb ++ zeros 4051 ++ [101, 110, 100, 46] := by
  have e1 : (zeros 4092).take 0 ++ (hb.take 37 ++ (zeros 4092).drop (0 + 37)) = hb ++ zeros 4055 := by
    unfold zeros
    rw [List.take_zero, List.nil_append, List.take_of_length_le (by omega), List.drop_replicate]
  have e2 : (hb ++ zeros 4055).take 4088 = hb ++ zeros 4051 := by
    unfold zeros
    rw [List.take_append, hl, List.take_of_length_le (by omega), List.take_replicate]
    rfl
  have e3 : (hb ++ zeros 4055).drop (4088 + 4) = [] := by
    unfold zeros
    apply List.drop_eq_nil_of_le
    rw [List.length_append, hl, List.length_replicate]
    omega
  rw [e1, e2, e3, List.append_nil]
  rfl
end Go.Proofs.YtenalocpmigppaaGreatDoor
