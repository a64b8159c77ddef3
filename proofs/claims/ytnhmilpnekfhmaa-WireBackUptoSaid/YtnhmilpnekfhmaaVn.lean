/- Plain laws of WireBack: numbers put one behind the other. -/
import Derived.Test.YtnhmilpnekfhmaaVl
import Derived.Test.YtnhmilpnekfhmaaVi
namespace Go.Proofs.Ytnhmilpnekfhmaa
open Go.RowKit

def putL (p : Nat × Int) : List UInt8 := putS p.1 (wideS p.2)
def catS (l : List (Nat × Int)) : List UInt8 := l.flatMap putL
def posS (l : List (Nat × Int)) (i : Nat) : Nat := (catS (l.take i)).length
def endsS (l : List (Nat × Int)) (i : Nat) : List Int := (List.range i).map fun j => ((posS l (j + 1) : Nat) : Int)
def wantS (x u : Nat) : Nat := if u = 0 then x else x % 256 ^ u

theorem putS_length (x u : Nat) : (putS x u).length = if u = 0 then (vF 9 x).length else u := by
  unfold putS; split
  · rfl
  · exact leB_length x u
theorem putL_bounds (p : Nat × Int) : 1 ≤ (putL p).length ∧ (putL p).length ≤ 10 := by
  unfold putL
  rw [putS_length]
  have := vF_length 9 p.1
  rcases wide_five p.2 with h | h | h | h | h <;> rw [h] <;> simp <;> omega
theorem catS_append (a b : List (Nat × Int)) : catS (a ++ b) = catS a ++ catS b := by simp [catS]
theorem take_succ_of {α : Type} {l : List α} {i : Nat} {p : α} (h : l[i]? = some p) : l.take (i + 1) = l.take i ++ [p] := by
  rw [List.take_add_one, h]; rfl
theorem catS_succ {l : List (Nat × Int)} {i : Nat} {p : Nat × Int} (h : l[i]? = some p) : catS (l.take (i + 1)) = catS (l.take i) ++ putL p := by
  rw [take_succ_of h, catS_append]; simp [catS]
theorem posS_succ {l : List (Nat × Int)} {i : Nat} {p : Nat × Int} (h : l[i]? = some p) : posS l (i + 1) = posS l i + (putL p).length := by
  unfold posS; rw [catS_succ h, List.length_append]
theorem posS_le (l : List (Nat × Int)) (i : Nat) : posS l i ≤ 10 * i := by
  induction i with
  | zero => simp [posS, catS]
  | succ i ih =>
    cases h : l[i]? with
    | none =>
      have e : l.take (i + 1) = l.take i := by rw [List.take_add_one, h]; simp
      unfold posS at ih ⊢; rw [e]; omega
    | some p => have := posS_succ h; have := putL_bounds p; omega
theorem posS_mono (l : List (Nat × Int)) (i j : Nat) (h : i ≤ j) : posS l i ≤ posS l j := by
  obtain ⟨d, rfl⟩ : ∃ d, j = i + d := ⟨j - i, by omega⟩
  unfold posS
  rw [List.take_add, catS_append, List.length_append]; omega
theorem posS_all (l : List (Nat × Int)) : posS l l.length = (catS l).length := by unfold posS; rw [List.take_length]
theorem endsS_succ (l : List (Nat × Int)) (i : Nat) : endsS l (i + 1) = endsS l i ++ [((posS l (i + 1) : Nat) : Int)] := by simp [endsS, List.range_succ]
theorem endsS_length (l : List (Nat × Int)) (i : Nat) : (endsS l i).length = i := by simp [endsS]
theorem endsS_get (l : List (Nat × Int)) (n i : Nat) (h : i < (endsS l n).length) : (endsS l n)[i] = ((posS l (i + 1) : Nat) : Int) := by simp [endsS]
theorem catS_drop {l : List (Nat × Int)} {i : Nat} {p : Nat × Int} (h : l[i]? = some p) : (catS l).drop (posS l i) = putL p ++ (catS l).drop (posS l (i + 1)) := by
  have h1 : catS l = catS (l.take i) ++ catS (l.drop i) := by rw [← catS_append, List.take_append_drop]
  have h2 : catS l = catS (l.take (i + 1)) ++ catS (l.drop (i + 1)) := by rw [← catS_append, List.take_append_drop]
  have d1 : (catS l).drop (posS l i) = catS (l.drop i) := by rw [h1]; exact List.drop_left
  have d2 : (catS l).drop (posS l (i + 1)) = catS (l.drop (i + 1)) := by rw [h2]; exact List.drop_left
  rw [d1, d2]
  obtain ⟨hi, hp⟩ := List.getElem?_eq_some_iff.1 h
  rw [List.drop_eq_getElem_cons hi, hp]
  simp [catS]
theorem lead_all (k : Nat) (l : List UInt8) (h : ∀ b ∈ l, 128 ≤ b.toNat) (hl : l.length ≤ k) : lead k l = l.length := by
  induction l generalizing k with
  | nil => cases k <;> rfl
  | cons b l ih =>
    cases k with
    | zero => simp at hl
    | succ k =>
      rw [lead, if_pos (h b (by simp)), ih k (fun c hc => h c (by simp [hc])) (by simpa using hl)]; rfl
theorem vOut_short (x k : Nat) (hx : x < 18446744073709551616) (hk : k < (vF 9 x).length) : vOut ((vF 9 x).take k) = (0, 0, 10) := by
  have Q := least_bytes x hx
  have hl : ((vF 9 x).take k).length = k := by rw [List.length_take]; omega
  have h : lead 10 ((vF 9 x).take k) = k := by
    have := lead_all 10 ((vF 9 x).take k) (fun b hb => by
      obtain ⟨j, hj, e⟩ := List.getElem_of_mem hb
      rw [hl] at hj
      have hj2 : j < (vF 9 x).length := by omega
      have := Q.big j hj2 (by omega)
      rw [← e, List.getElem_take]; exact this) (by rw [hl]; have := Q.n10; omega)
    rw [hl] at this; exact this
  unfold vOut
  rw [h, hl, if_neg (by have := Q.n10; omega), if_pos rfl]

/-- a number that lies whole ahead of the cut is read. -/
theorem get_whole {l : List (Nat × Int)} {i : Nat} {x : Nat} {k : Int} (h : l[i]? = some (x, k)) (q : Nat) (hq : posS l (i + 1) ≤ q) (hB : q ≤ (catS l).length) (hx : x < 18446744073709551616) :
    getS ((catS l).take q) (posS l i) 0 (wideS k) = (wantS x (wideS k), posS l (i + 1), 0) := by
  have hs := posS_succ h
  have hd := catS_drop h
  have e : ((catS l).take q).drop (posS l i) = putL (x, k) ++ ((catS l).drop (posS l (i + 1))).take (q - posS l (i + 1)) := by
    rw [List.drop_take, hd, List.take_append, List.take_of_length_le (by omega)]
    congr 2
    omega
  have hl : ((catS l).take q).length = q := by rw [List.length_take]; omega
  unfold getS wantS
  by_cases hu : wideS k = 0
  · rw [if_pos hu, if_pos hu]
    have ep : putL (x, k) = vF 9 x := by unfold putL putS; rw [if_pos hu]
    unfold vS
    rw [if_pos rfl, e, ep, vOut_form x hx, hs, ep]
  · rw [if_neg hu, if_neg hu]
    have ep : putL (x, k) = leB x (wideS k) := by unfold putL putS; rw [if_neg hu]
    have epl : (putL (x, k)).length = wideS k := by rw [ep, leB_length]
    unfold numS
    rw [if_pos ⟨rfl, by rw [hl]; omega⟩, e, ep, List.take_left' (leB_length _ _), unle_leB, hs, epl]
/-- a number that the cut parts breaks the reader at its first byte. -/
theorem get_short {l : List (Nat × Int)} {i : Nat} {x : Nat} {k : Int} (h : l[i]? = some (x, k)) (q : Nat) (hq : q < posS l (i + 1)) (h0 : posS l i ≤ q) (hB : q ≤ (catS l).length) (hx : x < 18446744073709551616) :
    getS ((catS l).take q) (posS l i) 0 (wideS k) = (0, posS l i, 10) := by
  have hs := posS_succ h
  have hd := catS_drop h
  have hl : ((catS l).take q).length = q := by rw [List.length_take]; omega
  unfold getS
  by_cases hu : wideS k = 0
  · rw [if_pos hu]
    have ep : putL (x, k) = vF 9 x := by unfold putL putS; rw [if_pos hu]
    rw [ep] at hs hd
    have e : ((catS l).take q).drop (posS l i) = (vF 9 x).take (q - posS l i) := by rw [List.drop_take, hd, List.take_append_of_le_length (by omega)]
    unfold vS
    rw [if_pos rfl, e, vOut_short x _ hx (by omega)]
    rfl
  · rw [if_neg hu]
    have ep : putL (x, k) = leB x (wideS k) := by unfold putL putS; rw [if_neg hu]
    have epl : (putL (x, k)).length = wideS k := by rw [ep, leB_length]
    unfold numS
    rw [if_neg (by rw [hl]; omega)]; rfl
theorem left_cut (B : List UInt8) (q E : Nat) (h : q ≤ B.length) : leftS (B.take q) E 0 = q - E := by
  unfold leftS
  rw [if_pos rfl, List.length_take, Nat.min_eq_left h]
end Go.Proofs.Ytnhmilpnekfhmaa
