/- Plain laws of chapter 6: bodies of chains and of frees. No program in sight. -/
import Derived.Test.YtmeakhiiebeneaaGreatDoorM1
import Derived.Test.YtmeakhiiebeneaaGreatDoorM3
import Derived.Deep.CutRange
namespace Go.Proofs.YtmeakhiiebeneaaGreatDoor

def isNextB (x : Int) : Bool := decide (x = 0 ∨ (2 ≤ x ∧ x ≤ 524286))
def isDataB (x : Int) (n : Nat) : Bool := decide (1 ≤ n ∧ n ≤ 4085 ∧ (x = 0 ∨ n = 4085))
def rises : Int → List Int → Bool
  | _, [] => true
  | p, x :: l => decide (p < x ∧ x ≤ 524286) && rises x l
def isListB (x : Int) (l : List Int) : Bool := decide (l.length ≤ 1021 ∧ (x = 0 ∨ l.length = 1021)) && rises 1 l
def hd (k : UInt8) (x n : Nat) : List UInt8 := k :: (leB x 4 ++ leB n 2)
def fours (l : List Int) : List UInt8 := l.flatMap fun x => leB x.toNat 4
def encD (x : Nat) (d : List UInt8) : List UInt8 := hd 3 x d.length ++ (d ++ zer (4085 - d.length))
def encL (x : Nat) (l : List Int) : List UInt8 := hd 4 x l.length ++ (fours l ++ zer (4085 - 4 * l.length))
def nextOf (b : List UInt8) : Nat := unle ((b.drop 1).take 4)
def cntOf (b : List UInt8) : Nat := unle ((b.drop 5).take 2)
def dataOf (b : List UInt8) : List UInt8 := (b.drop 7).take (cntOf b)
def numAt (b : List UInt8) (i : Nat) : Int := ((unle ((b.drop (7 + 4 * i)).take 4) : Nat) : Int)
def numsOf (b : List UInt8) (n : Nat) : List Int := (List.range n).map (numAt b)
def isKind (k : UInt8) (b : List UInt8) : Bool := decide (b.length = 4092 ∧ b.head? = some k) && isNextB (nextOf b)
def okD (b : List UInt8) : Bool := isKind 3 b && (isDataB (nextOf b) (cntOf b) && (b.drop (7 + cntOf b)).all (· == 0))
def okL (b : List UInt8) : Bool := (isKind 4 b && decide (cntOf b ≤ 1021)) && (isListB (nextOf b) (numsOf b (cntOf b)) && (b.drop (7 + 4 * cntOf b)).all (· == 0))
def decD (b : List UInt8) : Nat × List UInt8 × Int := if okD b then (nextOf b, dataOf b, 0) else (0, [], 60)
def decL (b : List UInt8) : Nat × List Int × Int := if okL b then (nextOf b, numsOf b (cntOf b), 0) else (0, [], 61)
def encDS (x : Int) (d : List UInt8) : List UInt8 × Int := if isNextB x then if isDataB x d.length then (encD x.toNat d, 0) else ([], 62) else ([], 51)
def encLS (x : Int) (l : List Int) : List UInt8 × Int := if isNextB x then if isListB x l then (encL x.toNat l, 0) else ([], 63) else ([], 51)

theorem hd_length (k : UInt8) (x n : Nat) : (hd k x n).length = 7 := by simp [hd, leB_length]
theorem fours_length (l : List Int) : (fours l).length = 4 * l.length := by
  induction l with
  | nil => rfl
  | cons x l ih => unfold fours at ih ⊢; rw [List.flatMap_cons, List.length_append, ih, leB_length, List.length_cons]; omega
theorem fours_append (l m : List Int) : fours (l ++ m) = fours l ++ fours m := by simp [fours]
theorem fours_cons (x : Int) (l : List Int) : fours (x :: l) = leB x.toNat 4 ++ fours l := by simp [fours]
theorem fours_one (x : Int) : fours [x] = leB x.toNat 4 := by simp [fours]
theorem encD_length (x : Nat) (d : List UInt8) (h : d.length ≤ 4085) : (encD x d).length = 4092 := by
  unfold encD
  rw [List.length_append, List.length_append, hd_length, zer_length]; omega
theorem encL_length (x : Nat) (l : List Int) (h : l.length ≤ 1021) : (encL x l).length = 4092 := by
  unfold encL
  rw [List.length_append, List.length_append, hd_length, zer_length, fours_length]; omega
theorem hd_next (k : UInt8) (x n : Nat) (r : List UInt8) (h : x < 256 ^ 4) : nextOf (hd k x n ++ r) = x := by
  unfold nextOf hd
  rw [List.cons_append, List.drop_succ_cons, List.drop_zero, List.append_assoc, List.take_left' (leB_length x 4), unle_leB, Nat.mod_eq_of_lt h]
theorem hd_cnt (k : UInt8) (x n : Nat) (r : List UInt8) (h : n < 256 ^ 2) : cntOf (hd k x n ++ r) = n := by
  unfold cntOf hd
  rw [List.cons_append, show (5 : Nat) = 4 + 1 from rfl, List.drop_succ_cons, List.append_assoc, List.drop_left' (leB_length x 4), List.take_left' (leB_length n 2), unle_leB, Nat.mod_eq_of_lt h]
theorem hd_rest (k : UInt8) (x n : Nat) (r : List UInt8) (j : Nat) : (hd k x n ++ r).drop (7 + j) = r.drop j := by
  rw [← List.drop_drop, List.drop_left' (hd_length k x n)]
theorem hd_kind (k : UInt8) (x n : Nat) (r : List UInt8) : (hd k x n ++ r).head? = some k := rfl
theorem isNext_toNat {x : Int} (h : isNextB x = true) : ((x.toNat : Nat) : Int) = x ∧ x.toNat < 256 ^ 4 := by
  unfold isNextB at h
  have := of_decide_eq_true h
  refine ⟨by omega, Nat.lt_of_le_of_lt (m := 524286) (by omega) (by decide)⟩
theorem isData_iff {x : Int} {n : Nat} (h : isDataB x n = true) : 1 ≤ n ∧ n ≤ 4085 ∧ (x = 0 ∨ n = 4085) := of_decide_eq_true h
theorem isList_iff {x : Int} {l : List Int} (h : isListB x l = true) : l.length ≤ 1021 ∧ (x = 0 ∨ l.length = 1021) ∧ rises 1 l = true := by
  unfold isListB at h
  rw [Bool.and_eq_true] at h
  have := of_decide_eq_true h.1
  exact ⟨this.1, this.2, h.2⟩
theorem rises_range (p : Int) (l : List Int) (h : rises p l = true) : ∀ x ∈ l, p < x ∧ x ≤ 524286 := by
  induction l generalizing p with
  | nil => intro x hx; cases hx
  | cons y l ih =>
    rw [rises, Bool.and_eq_true] at h
    have hy := of_decide_eq_true h.1
    intro x hx
    rcases List.mem_cons.1 hx with rfl | hx
    · exact hy
    · have := ih y h.2 x hx
      omega

theorem split7 (b : List UInt8) (k : UInt8) (h : b.length = 4092) (hk : b.head? = some k) : b = hd k (nextOf b) (cntOf b) ++ b.drop 7 := by
  have e4 : leB (nextOf b) 4 = (b.drop 1).take 4 := by
    have := leB_unle ((b.drop 1).take 4)
    rwa [List.length_take, List.length_drop, h, show min 4 (4092 - 1) = 4 from rfl] at this
  have e2 : leB (cntOf b) 2 = (b.drop 5).take 2 := by
    have := leB_unle ((b.drop 5).take 2)
    rwa [List.length_take, List.length_drop, h, show min 2 (4092 - 5) = 2 from rfl] at this
  cases b with
  | nil => simp at h
  | cons y b =>
    simp only [List.head?_cons, Option.some.injEq] at hk
    subst hk
    unfold hd
    rw [e4, e2, List.cons_append, List.drop_succ_cons, List.drop_zero, show (5 : Nat) = 4 + 1 from rfl, List.drop_succ_cons, show (7 : Nat) = 6 + 1 from rfl, List.drop_succ_cons]
    congr 1
    rw [List.append_assoc]
    have h1 : (b.drop 4).take 2 ++ b.drop 6 = b.drop 4 := by rw [show (6 : Nat) = 4 + 2 from rfl, ← List.drop_drop, List.take_append_drop]
    rw [h1, List.take_append_drop]
theorem cnt_lt (b : List UInt8) : cntOf b < 65536 := by
  have := unle_lt ((b.drop 5).take 2)
  have h2 : ((b.drop 5).take 2).length ≤ 2 := List.length_take_le _ _
  have h3 : 256 ^ ((b.drop 5).take 2).length ≤ 256 ^ 2 := Nat.pow_le_pow_right (by decide) h2
  unfold cntOf
  omega
theorem next_lt (b : List UInt8) : nextOf b < 4294967296 := by
  have := unle_lt ((b.drop 1).take 4)
  have h2 : ((b.drop 1).take 4).length ≤ 4 := List.length_take_le _ _
  have h3 : 256 ^ ((b.drop 1).take 4).length ≤ 256 ^ 4 := Nat.pow_le_pow_right (by decide) h2
  unfold nextOf
  omega
theorem dataOf_length (b : List UInt8) (h : b.length = 4092) (hn : cntOf b ≤ 4085) : (dataOf b).length = cntOf b := by
  unfold dataOf
  rw [List.length_take, List.length_drop, h]; omega
theorem numsOf_length (b : List UInt8) (n : Nat) : (numsOf b n).length = n := by simp [numsOf]
theorem numsOf_succ (b : List UInt8) (n : Nat) : numsOf b (n + 1) = numsOf b n ++ [numAt b n] := by simp [numsOf, List.range_succ]
theorem fours_nums (b : List UInt8) (n : Nat) (h : 7 + 4 * n ≤ b.length) : fours (numsOf b n) = (b.drop 7).take (4 * n) := by
  induction n with
  | zero => simp [numsOf, fours]
  | succ n ih =>
    have hl : ((b.drop (7 + 4 * n)).take 4).length = 4 := by rw [List.length_take, List.length_drop]; omega
    have e : leB (unle ((b.drop (7 + 4 * n)).take 4)) 4 = (b.drop (7 + 4 * n)).take 4 := by
      have := leB_unle ((b.drop (7 + 4 * n)).take 4)
      rwa [hl] at this
    rw [numsOf_succ, fours_append, ih (by omega), fours_one, show (numAt b n).toNat = unle ((b.drop (7 + 4 * n)).take 4) from by unfold numAt; exact Int.toNat_natCast _, e, show 4 * (n + 1) = 4 * n + 4 by omega, List.take_add, List.drop_drop]
theorem fours_drop (l : List Int) (z : List UInt8) (i : Nat) (h : i ≤ l.length) : (fours l ++ z).drop (4 * i) = fours (l.drop i) ++ z := by
  induction l generalizing i with
  | nil => obtain rfl : i = 0 := by simpa using h
           rfl
  | cons x l ih =>
    cases i with
    | zero => rfl
    | succ i =>
      rw [fours_cons, List.append_assoc, show 4 * (i + 1) = 4 + 4 * i by omega, ← List.drop_drop, List.drop_left' (leB_length _ 4), ih i (by simpa using h), List.drop_succ_cons]
theorem nums_fours (k : UInt8) (x n : Nat) (l : List Int) (z : List UInt8) (hl : ∀ y ∈ l, 0 ≤ y ∧ y ≤ 524286) : numsOf (hd k x n ++ (fours l ++ z)) l.length = l := by
  refine List.ext_getElem (numsOf_length _ _) fun i h1 h2 => ?_
  have hy := hl l[i] (List.getElem_mem _)
  have e4 : fours (l.drop i) = leB l[i].toNat 4 ++ fours (l.drop (i + 1)) := by rw [List.drop_eq_getElem_cons h2, fours_cons]
  simp only [numsOf, List.getElem_map, List.getElem_range, numAt]
  rw [hd_rest, fours_drop _ _ _ (Nat.le_of_lt h2), e4, List.append_assoc, List.take_left' (leB_length _ 4), unle_leB, Nat.mod_eq_of_lt (Nat.lt_of_le_of_lt (m := 524286) (by omega) (by decide))]
  omega

theorem decD_encD (x : Int) (d : List UInt8) (h1 : isNextB x = true) (h2 : isDataB x d.length = true) : decD (encD x.toNat d) = (x.toNat, d, 0) := by
  obtain ⟨e, hx⟩ := isNext_toNat h1
  obtain ⟨n1, n2, n3⟩ := isData_iff h2
  have p2 : d.length < 256 ^ 2 := Nat.lt_of_le_of_lt n2 (by decide)
  have hn : nextOf (encD x.toNat d) = x.toNat := hd_next _ _ _ _ hx
  have hc : cntOf (encD x.toNat d) = d.length := hd_cnt _ _ _ _ p2
  have hr : (encD x.toNat d).drop (7 + d.length) = zer (4085 - d.length) := by unfold encD; rw [hd_rest, List.drop_left]
  have hdt : dataOf (encD x.toNat d) = d := by
    unfold dataOf
    rw [hc]
    unfold encD
    rw [show (7 : Nat) = 7 + 0 from rfl, hd_rest, List.drop_zero, List.take_left]
  have hk : isKind 3 (encD x.toNat d) = true := by
    unfold isKind
    rw [hn, e, h1, Bool.and_true]
    exact decide_eq_true ⟨encD_length _ _ n2, rfl⟩
  have : okD (encD x.toNat d) = true := by
    unfold okD
    rw [hk, hn, hc, e, h2, hr, all_zer]; rfl
  unfold decD
  rw [if_pos this, hn, hdt]
theorem decL_encD (x : Int) (d : List UInt8) : decL (encD x.toNat d) = (0, [], 61) := by
  have hk : isKind 4 (encD x.toNat d) = false := by
    unfold isKind
    rw [show decide ((encD x.toNat d).length = 4092 ∧ (encD x.toNat d).head? = some 4) = false from decide_eq_false (fun h => by have h2 := h.2; change some (3 : UInt8) = some 4 at h2; cases h2)]
    rfl
  unfold decL okL
  rw [hk]; rfl
theorem decL_encL (x : Int) (l : List Int) (h1 : isNextB x = true) (h2 : isListB x l = true) : decL (encL x.toNat l) = (x.toNat, l, 0) := by
  obtain ⟨e, hx⟩ := isNext_toNat h1
  obtain ⟨n1, n2, n3⟩ := isList_iff h2
  have p2 : l.length < 256 ^ 2 := Nat.lt_of_le_of_lt n1 (by decide)
  have hn : nextOf (encL x.toNat l) = x.toNat := hd_next _ _ _ _ hx
  have hc : cntOf (encL x.toNat l) = l.length := hd_cnt _ _ _ _ p2
  have hr : (encL x.toNat l).drop (7 + 4 * l.length) = zer (4085 - 4 * l.length) := by unfold encL; rw [hd_rest, ← fours_length, List.drop_left]
  have hdt : numsOf (encL x.toNat l) l.length = l := nums_fours _ _ _ _ _ (fun y hy => by have := rises_range 1 l n3 y hy; omega)
  have hk : isKind 4 (encL x.toNat l) = true := by
    unfold isKind
    rw [hn, e, h1, Bool.and_true]
    exact decide_eq_true ⟨encL_length _ _ n1, rfl⟩
  have : okL (encL x.toNat l) = true := by
    unfold okL
    rw [hk, hn, hc, e, hdt, h2, hr, all_zer, decide_eq_true n1]; rfl
  unfold decL
  rw [if_pos this, hn, hc, hdt]
theorem decD_encL (x : Int) (l : List Int) : decD (encL x.toNat l) = (0, [], 60) := by
  have hk : isKind 3 (encL x.toNat l) = false := by
    unfold isKind
    rw [show decide ((encL x.toNat l).length = 4092 ∧ (encL x.toNat l).head? = some 3) = false from decide_eq_false (fun h => by have h2 := h.2; change some (4 : UInt8) = some 3 at h2; cases h2)]
    rfl
  unfold decD okD
  rw [hk]; rfl

/-- What the document's DecodeData asks: the body of what is said is the body. -/
theorem okD_iff (b : List UInt8) (h : b.length = 4092) (hn : cntOf b ≤ 4085) : okD b = true ↔ (encDS (nextOf b) (dataOf b) = (b, 0)) := by
  have hl := dataOf_length b h hn
  have hsplit : b.drop 7 = dataOf b ++ b.drop (7 + cntOf b) := by unfold dataOf; rw [← List.drop_drop, List.take_append_drop]
  have hrl : (b.drop (7 + cntOf b)).length = 4085 - cntOf b := by rw [List.length_drop, h]; omega
  constructor
  · intro ho
    unfold okD isKind at ho
    simp only [Bool.and_eq_true] at ho
    obtain ⟨⟨hk, hnx⟩, hd1, hz⟩ := ho
    have hk := of_decide_eq_true hk
    unfold encDS
    rw [if_pos hnx, hl, if_pos hd1, Int.toNat_natCast]
    have : encD (nextOf b) (dataOf b) = b := by
      conv => rhs; rw [split7 b 3 h hk.2, hsplit, zer_of_all _ hz, hrl]
      unfold encD
      rw [hl]
    rw [this]
  · intro he
    unfold encDS at he
    rw [hl, Int.toNat_natCast] at he
    by_cases hnx : isNextB (nextOf b) = true
    · rw [if_pos hnx] at he
      by_cases hd1 : isDataB (nextOf b) (cntOf b) = true
      · rw [if_pos hd1] at he
        have hb : encD (nextOf b) (dataOf b) = b := (Prod.mk.inj he).1
        have hk : b.head? = some 3 := by rw [← hb]; rfl
        have hz : b.drop (7 + cntOf b) = zer (4085 - cntOf b) := by
          have e7 : (encD (nextOf b) (dataOf b)).drop (7 + (dataOf b).length) = zer (4085 - (dataOf b).length) := by unfold encD; rw [hd_rest, List.drop_left]
          rw [hb, hl] at e7
          exact e7
        unfold okD isKind
        rw [decide_eq_true ⟨h, hk⟩, hnx, hd1, hz, all_zer]; rfl
      · rw [if_neg hd1] at he
        cases he
    · rw [if_neg hnx] at he
      cases he
theorem okL_iff (b : List UInt8) (h : b.length = 4092) (hn : cntOf b ≤ 1021) : okL b = true ↔ (encLS (nextOf b) (numsOf b (cntOf b)) = (b, 0)) := by
  have hl := numsOf_length b (cntOf b)
  have hf := fours_nums b (cntOf b) (by omega)
  have hsplit : b.drop 7 = fours (numsOf b (cntOf b)) ++ b.drop (7 + 4 * cntOf b) := by rw [hf, ← List.drop_drop, List.take_append_drop]
  have hrl : (b.drop (7 + 4 * cntOf b)).length = 4085 - 4 * cntOf b := by rw [List.length_drop, h]; omega
  constructor
  · intro ho
    unfold okL isKind at ho
    simp only [Bool.and_eq_true] at ho
    obtain ⟨⟨⟨hk, hnx⟩, _⟩, hd1, hz⟩ := ho
    have hk := of_decide_eq_true hk
    unfold encLS
    rw [if_pos hnx, if_pos hd1, Int.toNat_natCast]
    have : encL (nextOf b) (numsOf b (cntOf b)) = b := by
      conv => rhs; rw [split7 b 4 h hk.2, hsplit, zer_of_all _ hz, hrl]
      unfold encL
      rw [hl]
    rw [this]
  · intro he
    unfold encLS at he
    rw [Int.toNat_natCast] at he
    by_cases hnx : isNextB (nextOf b) = true
    · rw [if_pos hnx] at he
      by_cases hd1 : isListB (nextOf b) (numsOf b (cntOf b)) = true
      · rw [if_pos hd1] at he
        have hb : encL (nextOf b) (numsOf b (cntOf b)) = b := (Prod.mk.inj he).1
        have hk : b.head? = some 4 := by rw [← hb]; rfl
        have hz : b.drop (7 + 4 * cntOf b) = zer (4085 - 4 * cntOf b) := by
          have e7 : (encL (nextOf b) (numsOf b (cntOf b))).drop (7 + 4 * (numsOf b (cntOf b)).length) = zer (4085 - 4 * (numsOf b (cntOf b)).length) := by unfold encL; rw [hd_rest, ← fours_length, List.drop_left]
          rw [hb, hl] at e7
          exact e7
        unfold okL isKind
        rw [decide_eq_true ⟨h, hk⟩, hnx, hd1, hz, all_zer, decide_eq_true hn]; rfl
      · rw [if_neg hd1] at he
        cases he
    · rw [if_neg hnx] at he
      cases he
theorem decD_back (b : List UInt8) (h : (decD b).2.2 = 0) : encDS (decD b).1 (decD b).2.1 = (b, 0) := by
  unfold decD at h ⊢
  by_cases ho : okD b = true
  · rw [if_pos ho]
    have ho' := ho
    unfold okD isKind at ho'
    simp only [Bool.and_eq_true] at ho'
    have h1 := of_decide_eq_true ho'.1.1
    have h2 := isData_iff ho'.2.1
    exact (okD_iff b h1.1 h2.2.1).1 ho
  · rw [if_neg ho] at h
    cases h
theorem decL_back (b : List UInt8) (h : (decL b).2.2 = 0) : encLS (decL b).1 (decL b).2.1 = (b, 0) := by
  unfold decL at h ⊢
  by_cases ho : okL b = true
  · rw [if_pos ho]
    have ho' := ho
    unfold okL isKind at ho'
    simp only [Bool.and_eq_true] at ho'
    have h1 := of_decide_eq_true ho'.1.1.1
    have h2 := of_decide_eq_true ho'.1.2
    exact (okL_iff b h1.1 h2).1 ho
  · rw [if_neg ho] at h
    cases h

/-! ### pieces -/
def pagesS (n : Int) : Nat := if n ≤ 512 ∨ 262144 < n then 0 else ((n + 4084) / 4085).toNat
def pieces (v : List UInt8) : List (List UInt8) := (List.range (pagesS v.length)).map fun i => (v.drop (4085 * i)).take 4085
theorem pages_le (n : Int) : pagesS n ≤ 65 := by unfold pagesS; split <;> omega
theorem pieces_get (v : List UInt8) (i : Nat) (h : i < pagesS v.length) : (pieces v)[i]? = some ((v.drop (4085 * i)).take 4085) := by
  unfold pieces
  rw [List.getElem?_map, List.getElem?_range h]; rfl
theorem pages_alt (n : Int) : (if n ≤ 512 ∨ 262144 < n then 0 else ((n - 1) / 4085 + 1).toNat) = pagesS n := by unfold pagesS; split <;> omega
theorem pages_last (n i : Nat) (h : i < pagesS (n : Int)) : 4085 * i + 1 ≤ n ∧ (i + 1 < pagesS (n : Int) → 4085 * (i + 1) < n) ∧ (i + 1 = pagesS (n : Int) → n ≤ 4085 * (i + 1)) ∧ 512 < n ∧ n ≤ 262144 := by
  unfold pagesS at h ⊢
  split at h
  · omega
  · rename_i hc
    rw [if_neg hc]
    omega
theorem pages_none (n : Nat) (h : pagesS (n : Int) = 0) : n ≤ 512 ∨ 262144 < n := by
  unfold pagesS at h
  split at h <;> omega
end Go.Proofs.YtmeakhiiebeneaaGreatDoor
namespace Go.Proofs.YtmeakhiiebeneaaGreatDoor
open Go.RowKit

theorem isNext_yes {x : Int} (h : 2 ≤ x ∧ x ≤ 524286) : isNextB x = true := decide_eq_true (Or.inr h)
theorem isNext_no {x : Int} (h : ¬ (x = 0 ∨ 2 ≤ x ∧ x ≤ 524286)) : isNextB x = false := decide_eq_false h
set_option maxHeartbeats 1000000 in
theorem isNext_calls (x : Int) (w : World) :
    Calls Tryz.prog 86 #[.int .i64 x] w fun e w' => e = .returned (.bool (isNextB x)) ∧ w = w' := by
  by_cases h0 : x = 0
  · subst h0
    go_enter Tryz.func86, Tryz.ntmps86
    go_wp2
    go_ret
    exact ⟨rfl, rfl⟩
  have e0 : (x == 0) = false := beq_eq_false_iff_ne.2 h0
  by_cases h1 : 2 ≤ x
  · by_cases h2 : x ≤ 524286
    · rw [isNext_yes ⟨h1, h2⟩]
      have i2 : x < 524287 := by omega
      go_enter Tryz.func86, Tryz.ntmps86
      go_wp2
      go_ret
      exact ⟨ret_bool1 (by simp [*]), rfl⟩
    · rw [isNext_no (by omega)]
      have i2 : ¬ x < 524287 := by omega
      go_enter Tryz.func86, Tryz.ntmps86
      go_wp2
      go_ret
      exact ⟨ret_bool1 (by simp), rfl⟩
  · rw [isNext_no (by omega)]
    have i1 : decide (2 ≤ x) = false := decide_eq_false h1
    go_enter Tryz.func86, Tryz.ntmps86
    go_wp2
    go_ret
    exact ⟨rfl, rfl⟩

set_option maxHeartbeats 1000000 in
theorem isData_calls (x : Int) (n : Nat) (w : World) :
    Calls Tryz.prog 87 #[.int .i64 x, .int .i64 (n : Int)] w fun e w' => e = .returned (.bool (isDataB x n)) ∧ w = w' := by
  by_cases h1 : 1 ≤ n
  · have i1 : (1 : Int) ≤ (n : Int) := by omega
    by_cases h2 : n ≤ 4085
    · have i2 : (n : Int) ≤ 4085 := by omega
      by_cases h0 : x = 0
      · subst h0
        rw [show isDataB 0 n = true from decide_eq_true ⟨h1, h2, Or.inl rfl⟩]
        go_enter Tryz.func87, Tryz.ntmps87
        go_wp2
        go_ret
        exact ⟨ret_bool1 (by simp), rfl⟩
      · have e0 : (x == 0) = false := beq_eq_false_iff_ne.2 h0
        by_cases h3 : n = 4085
        · subst h3
          rw [show isDataB x 4085 = true from decide_eq_true ⟨h1, h2, Or.inr rfl⟩]
          go_enter Tryz.func87, Tryz.ntmps87
          go_wp2
          go_ret
          exact ⟨ret_bool1 (by simp), rfl⟩
        · rw [show isDataB x n = false from decide_eq_false (by omega)]
          have e3 : ((n : Int) == 4085) = false := beq_eq_false_iff_ne.2 (by omega)
          go_enter Tryz.func87, Tryz.ntmps87
          go_wp2
          go_ret
          exact ⟨ret_bool1 (by simp), rfl⟩
    · rw [show isDataB x n = false from decide_eq_false (by omega)]
      have i2 : decide ((n : Int) ≤ 4085) = false := decide_eq_false (by omega)
      go_enter Tryz.func87, Tryz.ntmps87
      go_wp2
      go_ret
      exact ⟨rfl, rfl⟩
  · rw [show isDataB x n = false from decide_eq_false (by omega)]
    have i2 : decide ((1 : Int) ≤ (n : Int)) = false := decide_eq_false (by omega)
    go_enter Tryz.func87, Tryz.ntmps87
    go_wp2
    go_ret
    exact ⟨rfl, rfl⟩

theorem rises_step {p : Int} {l : List Int} {k : Nat} {x : Int} (h : l[k]? = some x) : rises p (l.drop k) = (decide (p < x ∧ x ≤ 524286) && rises x (l.drop (k + 1))) := by
  obtain ⟨hk, e⟩ := List.getElem?_eq_some_iff.1 h
  rw [List.drop_eq_getElem_cons hk, e]; rfl
theorem rises_end {p : Int} {l : List Int} {k : Nat} (h : l.length ≤ k) : rises p (l.drop k) = true := by
  rw [List.drop_of_length_le h]; rfl
set_option maxHeartbeats 2000000 in
theorem isList_calls (x : Int) (A : Option Addr) (n c : Nat) (l : List Int) (w : World) (h : RI w A n c l) :
    Calls Tryz.prog 91 #[.int .i64 x, .slice A n c] w fun e w' => e = .returned (.bool (isListB x l)) ∧ w = w' := by
  obtain ⟨r, hr⟩ : ∃ r, rises 1 l = r := ⟨_, rfl⟩
  obtain ⟨d, hd⟩ : ∃ d, decide (n ≤ 1021 ∧ (x = 0 ∨ n = 1021)) = d := ⟨_, rfl⟩
  have hB : isListB x l = (d && r) := by unfold isListB; rw [hr, h.len, hd]
  rw [hB]
  have HD := hideIt hd
  have HR := hideIt hr
  have HL := hideIt h.len
  have mx := h.max
  clear hB hr hd
  go_enter Tryz.func91, Tryz.ntmps91
  go_wp2
  go_loopw [5, 10] (fun pp kk wr => ∃ (k : Nat) (p : Int), k ≤ n ∧ kk = .int .i64 (k : Int) ∧ pp = .int .i64 p ∧ Hid (rises p (l.drop k) = r) ∧ w = wr)
    (fun _ kk _ => n - (intOf kk).toNat)
  case atStart => exact ⟨0, 1, by omega, rfl, rfl, HR, by trivial⟩
  case round =>
    obtain ⟨k, p, hk, rfl, rfl, HP, rfl⟩ := hrel
    by_cases hlt : k < n
    · obtain ⟨ad, rfl, cell⟩ := h.at_ k (by rw [HL.out]; exact hlt)
      have hx : l[k]? = some (l[k]'(by rw [HL.out]; exact hlt)) := List.getElem?_eq_getElem _
      obtain ⟨z, hz⟩ : ∃ z, l[k]'(by rw [HL.out]; exact hlt) = z := ⟨_, rfl⟩
      rw [hz] at hx cell
      have st := rises_step (p := p) hx
      rw [HP.out] at st
      have i1 : (k : Int) < (n : Int) := by omega
      by_cases h1 : p < z
      · by_cases h2 : z ≤ 524286
        · rw [decide_eq_true (⟨h1, h2⟩ : p < z ∧ z ≤ 524286), Bool.true_and] at st
          have ST := hideIt st.symm
          have i2 : decide (z ≤ p) = false := decide_eq_false (by omega)
          have i3 : decide (524287 ≤ z) = false := decide_eq_false (by omega)
          clear st hx hz h1 h2
          go_wp2
          go_roundw
          case rel => exact ⟨k + 1, z, by omega, by go_num, rfl, ST, by trivial⟩
          case measure => simp [intOf]; omega
        · rw [decide_eq_false (fun q => h2 q.2 : ¬ (p < z ∧ z ≤ 524286)), Bool.false_and] at st
          subst st
          have i2 : decide (z ≤ p) = false := decide_eq_false (by omega)
          have i3 : decide (524287 ≤ z) = true := decide_eq_true (by omega)
          clear hx hz h1 h2
          go_wp2
          go_ret
          exact ⟨ret_bool1 (by cases d <;> rfl), rfl⟩
      · rw [decide_eq_false (fun q => h1 q.1 : ¬ (p < z ∧ z ≤ 524286)), Bool.false_and] at st
        subst st
        have i2 : decide (z ≤ p) = true := decide_eq_true (by omega)
        clear hx hz h1
        go_wp2
        go_ret
        exact ⟨ret_bool1 (by cases d <;> rfl), rfl⟩
    · obtain rfl : n = k := by omega
      have en := rises_end (p := p) (l := l) (k := n) (by rw [HL.out]; exact Nat.le_refl _)
      rw [HP.out] at en
      subst en
      by_cases h1 : n ≤ 1021
      · have i1 : (n : Int) ≤ 1021 := by omega
        by_cases h0 : x = 0
        · subst h0
          obtain rfl : d = true := by rw [← HD.out]; exact decide_eq_true ⟨h1, Or.inl rfl⟩
          go_wp2
          go_ret
          exact ⟨ret_bool1 (by simp), rfl⟩
        · have e0 : (x == 0) = false := beq_eq_false_iff_ne.2 h0
          by_cases h3 : n = 1021
          · obtain rfl : d = true := by rw [← HD.out]; exact decide_eq_true ⟨h1, Or.inr h3⟩
            have e3 : ((n : Int) == 1021) = true := beq_iff_eq.2 (by omega)
            clear h3
            go_wp2
            go_ret
            exact ⟨ret_bool1 (by simp [*]), rfl⟩
          · obtain rfl : d = false := by rw [← HD.out]; exact decide_eq_false (by omega)
            have e3 : ((n : Int) == 1021) = false := beq_eq_false_iff_ne.2 (by omega)
            clear h3
            go_wp2
            go_ret
            exact ⟨ret_bool1 (by simp [*]), rfl⟩
      · obtain rfl : d = false := by rw [← HD.out]; exact decide_eq_false (by omega)
        have i1 : decide ((n : Int) ≤ 1021) = false := decide_eq_false (by omega)
        go_wp2
        go_ret
        exact ⟨rfl, rfl⟩

set_option maxHeartbeats 1000000 in
theorem Pages_calls (n : Int) (w : World) :
    Calls Tryz.prog 83 #[.int .i64 n] w fun e w' => e = .returned (.int .i64 (pagesS n : Nat)) ∧ w = w' := by
  by_cases h1 : n ≤ 512
  · rw [show pagesS n = 0 from if_pos (Or.inl h1)]
    go_enter Tryz.func83, Tryz.ntmps83
    go_wp2
    go_ret
    exact ⟨rfl, rfl⟩
  · have i1 : decide (n ≤ 512) = false := decide_eq_false h1
    by_cases h2 : 262144 < n
    · rw [show pagesS n = 0 from if_pos (Or.inr h2)]
      go_enter Tryz.func83, Tryz.ntmps83
      go_wp2
      go_ret
      exact ⟨rfl, rfl⟩
    · have i2 : decide (262144 < n) = false := decide_eq_false h2
      have e : ((pagesS n : Nat) : Int) = (n + 4084) / 4085 := by unfold pagesS; rw [if_neg (by omega)]; omega
      rw [e]
      have i3 : 0 ≤ n := by omega
      have i4 : n ≤ 262144 := by omega
      have i5 : n + 4085 - 1 = n + 4084 := by omega
      clear e h1 h2
      go_enter Tryz.func83, Tryz.ntmps83
      go_wp2
      go_ret
      first | exact ⟨rfl, rfl⟩ | exact ⟨by rw [i5], rfl⟩

set_option maxHeartbeats 2000000 in
theorem zeros_calls (A : Option Addr) (n c : Nat) (xs : List UInt8) (w : World) (h : RB w A n c xs) :
    Calls Tryz.prog 94 #[.slice A n c] w fun e w' => e = .returned (.bool (xs.all (· == 0))) ∧ w = w' := by
  obtain ⟨r, hr⟩ : ∃ r, xs.all (· == 0) = r := ⟨_, rfl⟩
  rw [hr]
  have HL := hideIt h.len
  have mx : n ≤ 9223372036854775807 := by have h1 := RC.le h; have h2 := RC.mx h; rw [maxLen_is] at h2; omega
  have HR : Hid ((xs.drop 0).all (· == 0) = r) := hideIt (by rw [List.drop_zero]; exact hr)
  clear hr
  go_enter Tryz.func94, Tryz.ntmps94
  go_wp2
  go_loopw [7] (fun kk wr => ∃ (k : Nat), k ≤ n ∧ kk = .int .i64 (k : Int) ∧ Hid ((xs.drop k).all (· == 0) = r) ∧ w = wr)
    (fun kk _ => n - (intOf kk).toNat)
  case atStart => exact ⟨0, by omega, rfl, HR, by trivial⟩
  case round =>
    obtain ⟨k, hk, rfl, HP, rfl⟩ := hrel
    by_cases hlt : k < n
    · have hkl : k < xs.length := by rw [HL.out]; exact hlt
      obtain ⟨ad, rfl, cell⟩ := h.at_ k hkl
      have st : (xs.drop k).all (· == 0) = ((xs[k] == 0) && (xs.drop (k + 1)).all (· == 0)) := by rw [List.drop_eq_getElem_cons hkl, List.all_cons]
      rw [HP.out] at st
      generalize xs[k] = b at st cell
      have i1 : (k : Int) < (n : Int) := by omega
      by_cases hb : b = 0
      · subst hb
        rw [show ((0 : UInt8) == 0) = true from rfl, Bool.true_and] at st
        have ST := hideIt st.symm
        have cell : w.cell? (ad.add k) = some (.int .u8 0) := cell
        clear st
        go_wp2
        go_roundw
        case rel => exact ⟨k + 1, by omega, by go_num, ST, by trivial⟩
        case measure => simp [intOf]; omega
      · rw [show (b == 0) = false from beq_eq_false_iff_ne.2 hb, Bool.false_and] at st
        subst st
        have e0 : ((b.toNat : Int) == 0) = false := by
          rw [beq_eq_false_iff_ne]; intro q
          exact hb (UInt8.toNat_inj.1 (by show b.toNat = 0; omega))
        have e1 : ((b.toNat : Int) != 0) = true := by simp only [bne, e0]; rfl
        clear hb
        go_wp2
        go_ret
        exact ⟨rfl, rfl⟩
    · obtain rfl : n = k := by omega
      have en : (xs.drop n).all (· == 0) = true := by rw [List.drop_of_length_le (by rw [HL.out]; exact Nat.le_refl _)]; rfl
      rw [HP.out] at en
      subst en
      go_wp2
      go_ret
      exact ⟨rfl, rfl⟩
end Go.Proofs.YtmeakhiiebeneaaGreatDoor
namespace Go.Proofs.YtmeakhiiebeneaaGreatDoor
open Go.RowKit


set_option maxHeartbeats 4000000 in
theorem begun_calls (k : UInt8) (x n : Nat) (w : World) (hx : x < 256 ^ 4) (hn : n < 256 ^ 2) :
    Calls Tryz.prog 88 #[.int .u8 (k.toNat : Int), .int .i64 (x : Int), .int .i64 (n : Int)] w fun e w' => ∃ g, e = .returned (.slice (some ⟨g, 0, none⟩) 7 4092) ∧ w.heap.size ≤ g ∧ OZ w' g 4092 (hd k x n) ∧ Below w.heap.size w w' := by
  have e1 := u32_of x hx
  have e2 := u16_of n hn
  have HX := hideIt hx
  have HN := hideIt hn
  clear hx hn
  go_enter Tryz.func88, Tryz.ntmps88
  go_upto_region 2 with (at_make; refine wpZ_make rfl _ _ rfl _ _ _ _ 0 4092 rfl rfl rfl rfl (by omega) (by omega) ?_; intro g w1 s1 o1 k1)
  have b1 := below_of_grown k1 (Nat.le_refl _) (by simp)
  have ba := below1 w1 (.cells #[.int .u8 (k.toNat : Int)] 5)
  have o1a := o1.below ba
  have q1 := u8_one w1 k
  have b1a := b1.trans (ba.mono b1.size)
  clear k1 b1 ba o1
  go_upto_region 3 with (with_reducible refine wpZ_app rfl (.tmp 9) (.tmp 11) rfl _ _ _ _ rfl o1a rfl _ _ _ _ rfl q1 (by decide) 1 rfl (by decide) ?_; intro w2 o2 k2)
  have b2 := b1a.trans (below_of_grown k2 b1a.size (by simp; exact s1))
  clear k2 b1a q1 o1a
  go_upto_region 4 with (first
    | (with_reducible refine wpZ_app rfl (.tmp 13) (.tmp 17) rfl _ _ _ _ rfl o3a rfl _ _ _ _ rfl q3 (by decide) 5 rfl (by decide) ?_; intro w4 o4 k4)
    | (with_reducible refine wpZ_app rfl (.tmp 13) (.tmp 16) rfl _ _ _ _ rfl o3 rfl _ _ _ _ rfl q3.read (by decide) 5 rfl (by decide) ?_; intro w4 o4 k4)
    | (go_at_call 80; refine (Put32_calls none 0 0 [] x _ (RB.nil _) (by omega) HX.out).mono ?_; rintro en w3 ⟨g3, c3, rfl, s3, q3, b3⟩; have o3 := o2.below b3; have bb3 := b2.trans (b3.mono b2.size)))
  have b4 := bb3.trans (below_of_grown k4 bb3.size (by simp; exact s1))
  clear k4 bb3 b3 b2 o2 o3 q3 s3
  go_wp2_with (first
    | (with_reducible refine wpZ_app rfl (.tmp 18) (.tmp 21) rfl _ _ _ _ rfl o5 rfl _ _ _ _ rfl q5.read (by decide) 7 rfl (by decide) ?_; intro w6 o6 k6)
    | (go_at_call 71; refine (Put16_calls none 0 0 [] n _ (RB.nil _) (by omega) HN.out).mono ?_; rintro en w5 ⟨g5, c5, rfl, s5, q5, b5⟩; have o5 := o4.below b5; have bb5 := b4.trans (b5.mono b4.size)))
  go_ret
  exact ⟨g, rfl, s1, o6, bb5.trans (below_of_grown k6 bb5.size (by simp; exact s1))⟩
end Go.Proofs.YtmeakhiiebeneaaGreatDoor
namespace Go.Proofs.YtmeakhiiebeneaaGreatDoor
open Go.RowKit

theorem encD_copy (X n : Nat) (d : List UInt8) (h : d.length = n) :
    (hd 3 X n ++ zer (4092 - (hd 3 X n).length)).take 7 ++ (d.take n ++ (hd 3 X n ++ zer (4092 - (hd 3 X n).length)).drop (7 + n)) = encD X d := by
  unfold encD
  rw [hd_length, List.take_left' (hd_length 3 X n), hd_rest, List.take_of_length_le (by omega), h]
  congr 2
  unfold zer
  rw [List.drop_replicate]
def Enc (w : World) (r : List UInt8 × Int) (e : Ending) (w' : World) : Prop := ∃ A m c, e = .returned (.tuple #[.slice A m c, .int .i64 r.2]) ∧ GB w' w.heap.size A m c r.1 ∧ Below w.heap.size w w'

set_option maxRecDepth 100000 in
set_option maxHeartbeats 2000000 in
theorem EncodeData_calls (x : Int) (A : Option Addr) (n c : Nat) (d : List UInt8) (w : World) (h : RB w A n c d) :
    Calls Tryz.prog 35 #[.int .i64 x, .slice A n c] w (Enc w (encDS x d)) := by
  have HL := hideIt h.len
  have mx : n ≤ 9223372036854775807 := by have h1 := RC.le h; have h2 := RC.mx h; rw [maxLen_is] at h2; omega
  by_cases h1 : isNextB x = true
  · have IN := fun W => isNext_calls x W
    rw [h1] at IN
    by_cases h2 : isDataB x n = true
    · obtain ⟨ex, lx⟩ := isNext_toNat h1
      obtain ⟨n1, n2, _⟩ := isData_iff h2
      have hE : encDS x d = (encD x.toNat d, 0) := by unfold encDS; rw [if_pos h1, HL.out, if_pos h2]
      rw [hE]
      have ID := fun W => isData_calls x n W
      rw [h2] at ID
      generalize x.toNat = X at ex lx hE
      subst ex
      have LX := hideIt lx
      have LN := hideIt (show n < 256 ^ 2 from Nat.lt_of_le_of_lt n2 (by decide))
      have BG := fun W => begun_calls 3 X n W LX.out LN.out
      clear h1 h2 hE lx
      have i1 : (7 : Int) + (n : Int) - 7 = (n : Int) := by omega
      go_enter Tryz.func35, Tryz.ntmps35
      go_upto_region 6 with (first
        | (go_at_call 88; refine (BG _).mono ?_; rintro en w1 ⟨g, rfl, s1, o1, b1⟩)
        | (go_at_call 87; refine (ID _).mono ?_; rintro en wx ⟨rfl, rfl⟩)
        | (go_at_call 86; refine (IN _).mono ?_; rintro en wx ⟨rfl, rfl⟩))
      have r1 := h.below b1
      have z1 := b1.size
      go_wp2_with (with_reducible refine wpB_copy rfl (.tmp 27) (.tmp 28) rfl _ _ _ rfl _ _ _ rfl g 4092 4092 7 _ _ o1.all r1 n (by simp) (fun _ => rfl) (by omega) ?_; intro w2 o2 k2)
      rw [encD_copy X n d HL.out] at o2
      go_ret2
      exact ⟨_, _, _, rfl, GB.of o2 s1, blw_own b1 k2 z1 s1⟩
    · have h2' : isDataB x n = false := by simpa using h2
      have hE : encDS x d = ([], 62) := by unfold encDS; rw [if_pos h1, HL.out, if_neg h2]
      rw [hE]
      have ID := fun W => isData_calls x n W
      rw [h2'] at ID
      clear h1 h2 h2' hE
      go_enter Tryz.func35, Tryz.ntmps35
      go_wp2_with (first
        | (go_at_call 87; refine (ID _).mono ?_; rintro en wx ⟨rfl, rfl⟩)
        | (go_at_call 86; refine (IN _).mono ?_; rintro en wx ⟨rfl, rfl⟩))
      go_ret2
      exact ⟨_, _, _, rfl, GB.none_ _ _, Below.refl _ _⟩
  · have h1' : isNextB x = false := by simpa using h1
    have IN := fun W => isNext_calls x W
    rw [h1'] at IN
    have hE : encDS x d = ([], 51) := by unfold encDS; rw [if_neg h1]
    rw [hE]
    clear h1 h1' hE
    go_enter Tryz.func35, Tryz.ntmps35
    go_wp2_with (go_at_call 86; refine (IN _).mono ?_; rintro en wx ⟨rfl, rfl⟩)
    go_ret2
    exact ⟨_, _, _, rfl, GB.none_ _ _, Below.refl _ _⟩

theorem encL_zer (X n : Nat) (l : List Int) (h : l.length = n) (hn : n ≤ 1021) : (hd 4 X n ++ fours l) ++ zer (4092 - (hd 4 X n ++ fours l).length) = encL X l := by
  unfold encL
  rw [List.append_assoc, List.length_append, hd_length, fours_length, h]
  congr 3
  omega
set_option maxRecDepth 100000 in
set_option maxHeartbeats 2000000 in
theorem EncodeList_calls (x : Int) (A : Option Addr) (n c : Nat) (l : List Int) (w : World) (h : RI w A n c l) :
    Calls Tryz.prog 37 #[.int .i64 x, .slice A n c] w (Enc w (encLS x l)) := by
  have HL := hideIt h.len
  have mx := h.max
  by_cases h1 : isNextB x = true
  · have IN := fun W => isNext_calls x W
    rw [h1] at IN
    by_cases h2 : isListB x l = true
    · obtain ⟨ex, lx⟩ := isNext_toNat h1
      obtain ⟨n2, _, hr⟩ := isList_iff h2
      rw [HL.out] at n2
      have hE : encLS x l = (encL x.toNat l, 0) := by unfold encLS; rw [if_pos h1, if_pos h2]
      rw [hE]
      have IL := fun W q => isList_calls x A n c l W q
      rw [h2] at IL
      generalize x.toNat = X at ex lx hE
      subst ex
      have LX := hideIt lx
      have LN := hideIt (show n < 256 ^ 2 from Nat.lt_of_le_of_lt n2 (by decide))
      have BG := fun W => begun_calls 4 X n W LX.out LN.out
      have HR := hideIt (rises_range 1 l hr)
      clear h1 h2 hE lx hr
      go_enter Tryz.func37, Tryz.ntmps37
      go_upto_region 6 with (first
        | (go_at_call 88; refine (BG _).mono ?_; rintro en w1 ⟨g, rfl, s1, o1, b1⟩)
        | (go_at_call 91; refine (IL _ h).mono ?_; rintro en wx ⟨rfl, rfl⟩)
        | (go_at_call 86; refine (IN _).mono ?_; rintro en wx ⟨rfl, rfl⟩))
      go_wp2
      go_loopw [6, 22] (fun bb kk wr => ∃ (k m : Nat), k ≤ n ∧ m = 7 + 4 * k ∧ kk = .int .i64 (k : Int) ∧ bb = .slice (some ⟨g, 0, none⟩) m 4092 ∧ OZ wr g 4092 (hd 4 X n ++ fours (l.take k)) ∧ Below w.heap.size w wr)
        (fun _ kk _ => n - (intOf kk).toNat)
      case atStart => exact ⟨0, 7, by omega, rfl, rfl, rfl, by simpa [fours] using o1, b1⟩
      case round =>
        obtain ⟨k, m, hk, hm, rfl, rfl, oz, b⟩ := hrel
        by_cases hlt : k < n
        · have hkl : k < l.length := by rw [HL.out]; exact hlt
          obtain ⟨ad, rfl, cell⟩ := (h.below b).at_ k hkl
          have hz := HR.out l[k] (List.getElem_mem _)
          have htk : fours (l.take (k + 1)) = fours (l.take k) ++ leB l[k].toNat 4 := by rw [← List.take_append_getElem hkl, fours_append, fours_one]
          have HT := hideIt htk
          obtain ⟨z, ez⟩ : ∃ z : Nat, l[k] = (z : Int) := ⟨l[k].toNat, by omega⟩
          have hTl : (fours (l.take k)).length = 4 * k := by rw [fours_length, List.length_take]; omega
          rw [ez, Int.toNat_natCast] at HT
          rw [ez] at cell hz
          have ZL : z < 256 ^ 4 := Nat.lt_of_le_of_lt (m := 524286) (by omega) (by decide)
          have HZ := hideIt ZL
          have hu := u32_of z ZL
          have i1 : (k : Int) < (n : Int) := by omega
          have HM : Hid ((hd 4 X n ++ fours (l.take k)).length = m) := hideIt (by rw [List.length_append, hd_length, hTl]; omega)
          have hm4 : m + 4 ≤ 4092 := by omega
          have HM2 := hideIt hm
          clear htk ez ZL hTl hm
          have bs := b.size
          go_wp2_with (first
            | (with_reducible refine wpZ_app rfl (.tmp 26) (.tmp 29) rfl _ _ _ _ rfl oz2 HM.out _ _ _ _ rfl q2.read (by decide) (m + 4) rfl hm4 ?_; intro w3 o3 k3)
            | (go_at_call 80; refine (Put32_calls none 0 0 [] z _ (RB.nil _) (by omega) HZ.out).mono ?_; rintro en w2 ⟨g2, c2, rfl, s2, q2, b2⟩; have oz2 := oz.below b2; have bb2 := blw_step b b2))
          have b3 := blw_own bb2 k3 bb2.size s1
          rw [List.nil_append, List.append_assoc, ← HT.out] at o3
          go_roundw
          case rel => exact ⟨k + 1, m + 4, by omega, by rw [HM2.out]; omega, by go_num, rfl, o3, b3⟩
          case measure => simp [intOf]; omega
        · obtain rfl : n = k := by omega
          have hm4 : m ≤ 4092 := by omega
          have oz := oz.all
          rw [List.take_of_length_le (by rw [HL.out]; exact Nat.le_refl _), encL_zer X n l HL.out n2] at oz
          clear hm
          go_wp2
          go_ret2
          exact ⟨_, _, _, rfl, GB.of oz s1, b⟩
    · have h2' : isListB x l = false := by simpa using h2
      have hE : encLS x l = ([], 63) := by unfold encLS; rw [if_pos h1, if_neg h2]
      rw [hE]
      have IL := fun W q => isList_calls x A n c l W q
      rw [h2'] at IL
      clear h1 h2 h2' hE
      go_enter Tryz.func37, Tryz.ntmps37
      go_wp2_with (first
        | (go_at_call 91; refine (IL _ h).mono ?_; rintro en wx ⟨rfl, rfl⟩)
        | (go_at_call 86; refine (IN _).mono ?_; rintro en wx ⟨rfl, rfl⟩))
      go_ret2
      exact ⟨_, _, _, rfl, GB.none_ _ _, Below.refl _ _⟩
  · have h1' : isNextB x = false := by simpa using h1
    have IN := fun W => isNext_calls x W
    rw [h1'] at IN
    have hE : encLS x l = ([], 51) := by unfold encLS; rw [if_neg h1]
    rw [hE]
    clear h1 h1' hE
    go_enter Tryz.func37, Tryz.ntmps37
    go_wp2_with (go_at_call 86; refine (IN _).mono ?_; rintro en wx ⟨rfl, rfl⟩)
    go_ret2
    exact ⟨_, _, _, rfl, GB.none_ _ _, Below.refl _ _⟩
end Go.Proofs.YtmeakhiiebeneaaGreatDoor
