/- Plain laws of chapter 6: bodies of chains and of frees. No program in sight. -/
import Derived.Test.YthahedpkefojdaaWa
namespace Go.Proofs.Ythahedpkefojdaa

def isNextB (x : Int) : Bool := decide (x = 0 ∨ (2 ≤ x ∧ x ≤ 524286))
def isDataB (x : Int) (n : Nat) : Bool := decide (1 ≤ n ∧ n ≤ 4085 ∧ (x = 0 ∨ n = 4085))
def rises : Int → List Int → Bool
  | _, [] => true
  | p, x :: l => decide (p < x ∧ x ≤ 524286) && rises x l
def isListB (x : Int) (l : List Int) : Bool := decide (l.length ≤ 1021 ∧ (x = 0 ∨ l.length = 1021)) && rises 1 l
def zer (n : Nat) : List UInt8 := List.replicate n 0
def hd (k : UInt8) (x n : Nat) : List UInt8 := k :: (leB x 4 ++ leB n 2)
def fours (l : List Int) : List UInt8 := l.flatMap fun x => leB x.toNat 4
def encD (x : Nat) (d : List UInt8) : List UInt8 := hd 3 x d.length ++ (d ++ zer (4085 - d.length))
def encL (x : Nat) (l : List Int) : List UInt8 := hd 4 x l.length ++ (fours l ++ zer (4085 - 4 * l.length))
def nextOf (b : List UInt8) : Nat := unle ((b.drop 1).take 4)
def cntOf (b : List UInt8) : Nat := unle ((b.drop 5).take 2)
def dataOf (b : List UInt8) : List UInt8 := (b.drop 7).take (cntOf b)
def numAt (b : List UInt8) (i : Nat) : Int := ((unle ((b.drop (7 + 4 * i)).take 4) : Nat) : Int)
def numsOf (b : List UInt8) (n : Nat) : List Int := (List.range n).map (numAt b)
def isKind (k : UInt8) (b : List UInt8) : Bool := decide (b.length = 4092 ∧ b.head? = some k) && isNextB (nextOf b)
def okD (b : List UInt8) : Bool := isKind 3 b && (isDataB (nextOf b) (cntOf b) && (b.drop (7 + cntOf b)).all (· == 0))
def okL (b : List UInt8) : Bool := (isKind 4 b && decide (cntOf b ≤ 1021)) && (isListB (nextOf b) (numsOf b (cntOf b)) && (b.drop (7 + 4 * cntOf b)).all (· == 0))
def decD (b : List UInt8) : Nat × List UInt8 × Int := if okD b then (nextOf b, dataOf b, 0) else (0, [], 60)
def decL (b : List UInt8) : Nat × List Int × Int := if okL b then (nextOf b, numsOf b (cntOf b), 0) else (0, [], 61)
def encDS (x : Int) (d : List UInt8) : List UInt8 × Int := if isNextB x then if isDataB x d.length then (encD x.toNat d, 0) else ([], 62) else ([], 51)
def encLS (x : Int) (l : List Int) : List UInt8 × Int := if isNextB x then if isListB x l then (encL x.toNat l, 0) else ([], 63) else ([], 51)

theorem hd_length (k : UInt8) (x n : Nat) : (hd k x n).length = 7 := by simp [hd, leB_length]
theorem zer_length (n : Nat) : (zer n).length = n := by simp [zer]
theorem fours_length (l : List Int) : (fours l).length = 4 * l.length := by
  induction l with
  | nil => rfl
  | cons x l ih => unfold fours at ih ⊢; rw [List.flatMap_cons, List.length_append, ih, leB_length, List.length_cons]; omega
theorem fours_append (l m : List Int) : fours (l ++ m) = fours l ++ fours m := by simp [fours]
theorem fours_cons (x : Int) (l : List Int) : fours (x :: l) = leB x.toNat 4 ++ fours l := by simp [fours]
theorem fours_one (x : Int) : fours [x] = leB x.toNat 4 := by simp [fours]
theorem encD_length (x : Nat) (d : List UInt8) (h : d.length ≤ 4085) : (encD x d).length = 4092 := by
  unfold encD
  rw [List.length_append, List.length_append, hd_length, zer_length]; omega
theorem encL_length (x : Nat) (l : List Int) (h : l.length ≤ 1021) : (encL x l).length = 4092 := by
  unfold encL
  rw [List.length_append, List.length_append, hd_length, zer_length, fours_length]; omega
theorem hd_next (k : UInt8) (x n : Nat) (r : List UInt8) (h : x < 256 ^ 4) : nextOf (hd k x n ++ r) = x := by
  unfold nextOf hd
  rw [List.cons_append, List.drop_succ_cons, List.drop_zero, List.append_assoc, List.take_left' (leB_length x 4), unle_leB, Nat.mod_eq_of_lt h]
theorem hd_cnt (k : UInt8) (x n : Nat) (r : List UInt8) (h : n < 256 ^ 2) : cntOf (hd k x n ++ r) = n := by
  unfold cntOf hd
  rw [List.cons_append, show (5 : Nat) = 4 + 1 from rfl, List.drop_succ_cons, List.append_assoc, List.drop_left' (leB_length x 4), List.take_left' (leB_length n 2), unle_leB, Nat.mod_eq_of_lt h]
theorem hd_rest (k : UInt8) (x n : Nat) (r : List UInt8) (j : Nat) : (hd k x n ++ r).drop (7 + j) = r.drop j := by
  rw [← List.drop_drop, List.drop_left' (hd_length k x n)]
theorem hd_kind (k : UInt8) (x n : Nat) (r : List UInt8) : (hd k x n ++ r).head? = some k := rfl
theorem all_zer (n : Nat) : (zer n).all (· == 0) = true := by simp [zer]
theorem zer_of_all (L : List UInt8) (h : L.all (· == 0) = true) : L = zer L.length := by
  unfold zer
  refine List.eq_replicate_iff.2 ⟨rfl, fun x hx => ?_⟩
  have := List.all_eq_true.1 h x hx
  simpa using this
theorem isNext_toNat {x : Int} (h : isNextB x = true) : ((x.toNat : Nat) : Int) = x ∧ x.toNat < 256 ^ 4 := by
  unfold isNextB at h
  have := of_decide_eq_true h
  refine ⟨by omega, Nat.lt_of_le_of_lt (m := 524286) (by omega) (by decide)⟩
theorem isData_iff {x : Int} {n : Nat} (h : isDataB x n = true) : 1 ≤ n ∧ n ≤ 4085 ∧ (x = 0 ∨ n = 4085) := of_decide_eq_true h
theorem isList_iff {x : Int} {l : List Int} (h : isListB x l = true) : l.length ≤ 1021 ∧ (x = 0 ∨ l.length = 1021) ∧ rises 1 l = true := by
  unfold isListB at h
  rw [Bool.and_eq_true] at h
  have := of_decide_eq_true h.1
  exact ⟨this.1, this.2, h.2⟩
theorem rises_range (p : Int) (l : List Int) (h : rises p l = true) : ∀ x ∈ l, p < x ∧ x ≤ 524286 := by
  induction l generalizing p with
  | nil => intro x hx; cases hx
  | cons y l ih =>
    rw [rises, Bool.and_eq_true] at h
    have hy := of_decide_eq_true h.1
    intro x hx
    rcases List.mem_cons.1 hx with rfl | hx
    · exact hy
    · have := ih y h.2 x hx
      omega

theorem split7 (b : List UInt8) (k : UInt8) (h : b.length = 4092) (hk : b.head? = some k) : b = hd k (nextOf b) (cntOf b) ++ b.drop 7 := by
  have e4 : leB (nextOf b) 4 = (b.drop 1).take 4 := by
    have := leB_unle ((b.drop 1).take 4)
    rwa [List.length_take, List.length_drop, h, show min 4 (4092 - 1) = 4 from rfl] at this
  have e2 : leB (cntOf b) 2 = (b.drop 5).take 2 := by
    have := leB_unle ((b.drop 5).take 2)
    rwa [List.length_take, List.length_drop, h, show min 2 (4092 - 5) = 2 from rfl] at this
  cases b with
  | nil => simp at h
  | cons y b =>
    simp only [List.head?_cons, Option.some.injEq] at hk
    subst hk
    unfold hd
    rw [e4, e2, List.cons_append, List.drop_succ_cons, List.drop_zero, show (5 : Nat) = 4 + 1 from rfl, List.drop_succ_cons, show (7 : Nat) = 6 + 1 from rfl, List.drop_succ_cons]
    congr 1
    rw [List.append_assoc]
    have h1 : (b.drop 4).take 2 ++ b.drop 6 = b.drop 4 := by rw [show (6 : Nat) = 4 + 2 from rfl, ← List.drop_drop, List.take_append_drop]
    rw [h1, List.take_append_drop]
theorem cnt_lt (b : List UInt8) : cntOf b < 65536 := by
  have := unle_lt ((b.drop 5).take 2)
  have h2 : ((b.drop 5).take 2).length ≤ 2 := List.length_take_le _ _
  have h3 : 256 ^ ((b.drop 5).take 2).length ≤ 256 ^ 2 := Nat.pow_le_pow_right (by decide) h2
  unfold cntOf
  omega
theorem next_lt (b : List UInt8) : nextOf b < 4294967296 := by
  have := unle_lt ((b.drop 1).take 4)
  have h2 : ((b.drop 1).take 4).length ≤ 4 := List.length_take_le _ _
  have h3 : 256 ^ ((b.drop 1).take 4).length ≤ 256 ^ 4 := Nat.pow_le_pow_right (by decide) h2
  unfold nextOf
  omega
theorem dataOf_length (b : List UInt8) (h : b.length = 4092) (hn : cntOf b ≤ 4085) : (dataOf b).length = cntOf b := by
  unfold dataOf
  rw [List.length_take, List.length_drop, h]; omega
theorem numsOf_length (b : List UInt8) (n : Nat) : (numsOf b n).length = n := by simp [numsOf]
theorem numsOf_succ (b : List UInt8) (n : Nat) : numsOf b (n + 1) = numsOf b n ++ [numAt b n] := by simp [numsOf, List.range_succ]
theorem fours_nums (b : List UInt8) (n : Nat) (h : 7 + 4 * n ≤ b.length) : fours (numsOf b n) = (b.drop 7).take (4 * n) := by
  induction n with
  | zero => simp [numsOf, fours]
  | succ n ih =>
    have hl : ((b.drop (7 + 4 * n)).take 4).length = 4 := by rw [List.length_take, List.length_drop]; omega
    have e : leB (unle ((b.drop (7 + 4 * n)).take 4)) 4 = (b.drop (7 + 4 * n)).take 4 := by
      have := leB_unle ((b.drop (7 + 4 * n)).take 4)
      rwa [hl] at this
    rw [numsOf_succ, fours_append, ih (by omega), fours_one, show (numAt b n).toNat = unle ((b.drop (7 + 4 * n)).take 4) from by unfold numAt; exact Int.toNat_natCast _, e, show 4 * (n + 1) = 4 * n + 4 by omega, List.take_add, List.drop_drop]
theorem fours_drop (l : List Int) (z : List UInt8) (i : Nat) (h : i ≤ l.length) : (fours l ++ z).drop (4 * i) = fours (l.drop i) ++ z := by
  induction l generalizing i with
  | nil => obtain rfl : i = 0 := by simpa using h
           rfl
  | cons x l ih =>
    cases i with
    | zero => rfl
    | succ i =>
      rw [fours_cons, List.append_assoc, show 4 * (i + 1) = 4 + 4 * i by omega, ← List.drop_drop, List.drop_left' (leB_length _ 4), ih i (by simpa using h), List.drop_succ_cons]
theorem nums_fours (k : UInt8) (x n : Nat) (l : List Int) (z : List UInt8) (hl : ∀ y ∈ l, 0 ≤ y ∧ y ≤ 524286) : numsOf (hd k x n ++ (fours l ++ z)) l.length = l := by
  refine List.ext_getElem (numsOf_length _ _) fun i h1 h2 => ?_
  have hy := hl l[i] (List.getElem_mem _)
  have e4 : fours (l.drop i) = leB l[i].toNat 4 ++ fours (l.drop (i + 1)) := by rw [List.drop_eq_getElem_cons h2, fours_cons]
  simp only [numsOf, List.getElem_map, List.getElem_range, numAt]
  rw [hd_rest, fours_drop _ _ _ (Nat.le_of_lt h2), e4, List.append_assoc, List.take_left' (leB_length _ 4), unle_leB, Nat.mod_eq_of_lt (Nat.lt_of_le_of_lt (m := 524286) (by omega) (by decide))]
  omega

theorem decD_encD (x : Int) (d : List UInt8) (h1 : isNextB x = true) (h2 : isDataB x d.length = true) : decD (encD x.toNat d) = (x.toNat, d, 0) := by
  obtain ⟨e, hx⟩ := isNext_toNat h1
  obtain ⟨n1, n2, n3⟩ := isData_iff h2
  have p2 : d.length < 256 ^ 2 := Nat.lt_of_le_of_lt n2 (by decide)
  have hn : nextOf (encD x.toNat d) = x.toNat := hd_next _ _ _ _ hx
  have hc : cntOf (encD x.toNat d) = d.length := hd_cnt _ _ _ _ p2
  have hr : (encD x.toNat d).drop (7 + d.length) = zer (4085 - d.length) := by unfold encD; rw [hd_rest, List.drop_left]
  have hdt : dataOf (encD x.toNat d) = d := by
    unfold dataOf
    rw [hc]
    unfold encD
    rw [show (7 : Nat) = 7 + 0 from rfl, hd_rest, List.drop_zero, List.take_left]
  have hk : isKind 3 (encD x.toNat d) = true := by
    unfold isKind
    rw [hn, e, h1, Bool.and_true]
    exact decide_eq_true ⟨encD_length _ _ n2, rfl⟩
  have : okD (encD x.toNat d) = true := by
    unfold okD
    rw [hk, hn, hc, e, h2, hr, all_zer]; rfl
  unfold decD
  rw [if_pos this, hn, hdt]
theorem decL_encD (x : Int) (d : List UInt8) : decL (encD x.toNat d) = (0, [], 61) := by
  have hk : isKind 4 (encD x.toNat d) = false := by
    unfold isKind
    rw [show decide ((encD x.toNat d).length = 4092 ∧ (encD x.toNat d).head? = some 4) = false from decide_eq_false (fun h => by have h2 := h.2; change some (3 : UInt8) = some 4 at h2; cases h2)]
    rfl
  unfold decL okL
  rw [hk]; rfl
theorem decL_encL (x : Int) (l : List Int) (h1 : isNextB x = true) (h2 : isListB x l = true) : decL (encL x.toNat l) = (x.toNat, l, 0) := by
  obtain ⟨e, hx⟩ := isNext_toNat h1
  obtain ⟨n1, n2, n3⟩ := isList_iff h2
  have p2 : l.length < 256 ^ 2 := Nat.lt_of_le_of_lt n1 (by decide)
  have hn : nextOf (encL x.toNat l) = x.toNat := hd_next _ _ _ _ hx
  have hc : cntOf (encL x.toNat l) = l.length := hd_cnt _ _ _ _ p2
  have hr : (encL x.toNat l).drop (7 + 4 * l.length) = zer (4085 - 4 * l.length) := by unfold encL; rw [hd_rest, ← fours_length, List.drop_left]
  have hdt : numsOf (encL x.toNat l) l.length = l := nums_fours _ _ _ _ _ (fun y hy => by have := rises_range 1 l n3 y hy; omega)
  have hk : isKind 4 (encL x.toNat l) = true := by
    unfold isKind
    rw [hn, e, h1, Bool.and_true]
    exact decide_eq_true ⟨encL_length _ _ n1, rfl⟩
  have : okL (encL x.toNat l) = true := by
    unfold okL
    rw [hk, hn, hc, e, hdt, h2, hr, all_zer, decide_eq_true n1]; rfl
  unfold decL
  rw [if_pos this, hn, hc, hdt]
theorem decD_encL (x : Int) (l : List Int) : decD (encL x.toNat l) = (0, [], 60) := by
  have hk : isKind 3 (encL x.toNat l) = false := by
    unfold isKind
    rw [show decide ((encL x.toNat l).length = 4092 ∧ (encL x.toNat l).head? = some 3) = false from decide_eq_false (fun h => by have h2 := h.2; change some (4 : UInt8) = some 3 at h2; cases h2)]
    rfl
  unfold decD okD
  rw [hk]; rfl

/-- What the document's DecodeData asks: the body of what is said is the body. -/
theorem okD_iff (b : List UInt8) (h : b.length = 4092) (hn : cntOf b ≤ 4085) : okD b = true ↔ (encDS (nextOf b) (dataOf b) = (b, 0)) := by
  have hl := dataOf_length b h hn
  have hsplit : b.drop 7 = dataOf b ++ b.drop (7 + cntOf b) := by unfold dataOf; rw [← List.drop_drop, List.take_append_drop]
  have hrl : (b.drop (7 + cntOf b)).length = 4085 - cntOf b := by rw [List.length_drop, h]; omega
  constructor
  · intro ho
    unfold okD isKind at ho
    simp only [Bool.and_eq_true] at ho
    obtain ⟨⟨hk, hnx⟩, hd1, hz⟩ := ho
    have hk := of_decide_eq_true hk
    unfold encDS
    rw [if_pos hnx, hl, if_pos hd1, Int.toNat_natCast]
    have : encD (nextOf b) (dataOf b) = b := by
      conv => rhs; rw [split7 b 3 h hk.2, hsplit, zer_of_all _ hz, hrl]
      unfold encD
      rw [hl]
    rw [this]
  · intro he
    unfold encDS at he
    rw [hl, Int.toNat_natCast] at he
    by_cases hnx : isNextB (nextOf b) = true
    · rw [if_pos hnx] at he
      by_cases hd1 : isDataB (nextOf b) (cntOf b) = true
      · rw [if_pos hd1] at he
        have hb : encD (nextOf b) (dataOf b) = b := (Prod.mk.inj he).1
        have hk : b.head? = some 3 := by rw [← hb]; rfl
        have hz : b.drop (7 + cntOf b) = zer (4085 - cntOf b) := by
          have e7 : (encD (nextOf b) (dataOf b)).drop (7 + (dataOf b).length) = zer (4085 - (dataOf b).length) := by unfold encD; rw [hd_rest, List.drop_left]
          rw [hb, hl] at e7
          exact e7
        unfold okD isKind
        rw [decide_eq_true ⟨h, hk⟩, hnx, hd1, hz, all_zer]; rfl
      · rw [if_neg hd1] at he
        cases he
    · rw [if_neg hnx] at he
      cases he
theorem okL_iff (b : List UInt8) (h : b.length = 4092) (hn : cntOf b ≤ 1021) : okL b = true ↔ (encLS (nextOf b) (numsOf b (cntOf b)) = (b, 0)) := by
  have hl := numsOf_length b (cntOf b)
  have hf := fours_nums b (cntOf b) (by omega)
  have hsplit : b.drop 7 = fours (numsOf b (cntOf b)) ++ b.drop (7 + 4 * cntOf b) := by rw [hf, ← List.drop_drop, List.take_append_drop]
  have hrl : (b.drop (7 + 4 * cntOf b)).length = 4085 - 4 * cntOf b := by rw [List.length_drop, h]; omega
  constructor
  · intro ho
    unfold okL isKind at ho
    simp only [Bool.and_eq_true] at ho
    obtain ⟨⟨⟨hk, hnx⟩, _⟩, hd1, hz⟩ := ho
    have hk := of_decide_eq_true hk
    unfold encLS
    rw [if_pos hnx, if_pos hd1, Int.toNat_natCast]
    have : encL (nextOf b) (numsOf b (cntOf b)) = b := by
      conv => rhs; rw [split7 b 4 h hk.2, hsplit, zer_of_all _ hz, hrl]
      unfold encL
      rw [hl]
    rw [this]
  · intro he
    unfold encLS at he
    rw [Int.toNat_natCast] at he
    by_cases hnx : isNextB (nextOf b) = true
    · rw [if_pos hnx] at he
      by_cases hd1 : isListB (nextOf b) (numsOf b (cntOf b)) = true
      · rw [if_pos hd1] at he
        have hb : encL (nextOf b) (numsOf b (cntOf b)) = b := (Prod.mk.inj he).1
        have hk : b.head? = some 4 := by rw [← hb]; rfl
        have hz : b.drop (7 + 4 * cntOf b) = zer (4085 - 4 * cntOf b) := by
          have e7 : (encL (nextOf b) (numsOf b (cntOf b))).drop (7 + 4 * (numsOf b (cntOf b)).length) = zer (4085 - 4 * (numsOf b (cntOf b)).length) := by unfold encL; rw [hd_rest, ← fours_length, List.drop_left]
          rw [hb, hl] at e7
          exact e7
        unfold okL isKind
        rw [decide_eq_true ⟨h, hk⟩, hnx, hd1, hz, all_zer, decide_eq_true hn]; rfl
      · rw [if_neg hd1] at he
        cases he
    · rw [if_neg hnx] at he
      cases he
theorem decD_back (b : List UInt8) (h : (decD b).2.2 = 0) : encDS (decD b).1 (decD b).2.1 = (b, 0) := by
  unfold decD at h ⊢
  by_cases ho : okD b = true
  · rw [if_pos ho]
    have ho' := ho
    unfold okD isKind at ho'
    simp only [Bool.and_eq_true] at ho'
    have h1 := of_decide_eq_true ho'.1.1
    have h2 := isData_iff ho'.2.1
    exact (okD_iff b h1.1 h2.2.1).1 ho
  · rw [if_neg ho] at h
    cases h
theorem decL_back (b : List UInt8) (h : (decL b).2.2 = 0) : encLS (decL b).1 (decL b).2.1 = (b, 0) := by
  unfold decL at h ⊢
  by_cases ho : okL b = true
  · rw [if_pos ho]
    have ho' := ho
    unfold okL isKind at ho'
    simp only [Bool.and_eq_true] at ho'
    have h1 := of_decide_eq_true ho'.1.1.1
    have h2 := of_decide_eq_true ho'.1.2
    exact (okL_iff b h1.1 h2).1 ho
  · rw [if_neg ho] at h
    cases h

/-! ### pieces -/
def pagesS (n : Int) : Nat := if n ≤ 512 ∨ 262144 < n then 0 else ((n + 4084) / 4085).toNat
def pieces (v : List UInt8) : List (List UInt8) := (List.range (pagesS v.length)).map fun i => (v.drop (4085 * i)).take 4085
theorem pages_le (n : Int) : pagesS n ≤ 65 := by unfold pagesS; split <;> omega
theorem pieces_get (v : List UInt8) (i : Nat) (h : i < pagesS v.length) : (pieces v)[i]? = some ((v.drop (4085 * i)).take 4085) := by
  unfold pieces
  rw [List.getElem?_map, List.getElem?_range h]; rfl
theorem pages_alt (n : Int) : (if n ≤ 512 ∨ 262144 < n then 0 else ((n - 1) / 4085 + 1).toNat) = pagesS n := by unfold pagesS; split <;> omega
theorem pages_last (n i : Nat) (h : i < pagesS (n : Int)) : 4085 * i + 1 ≤ n ∧ (i + 1 < pagesS (n : Int) → 4085 * (i + 1) < n) ∧ (i + 1 = pagesS (n : Int) → n ≤ 4085 * (i + 1)) ∧ 512 < n ∧ n ≤ 262144 := by
  unfold pagesS at h ⊢
  split at h
  · omega
  · rename_i hc
    rw [if_neg hc]
    omega
theorem pages_none (n : Nat) (h : pagesS (n : Int) = 0) : n ≤ 512 ∨ 262144 < n := by
  unfold pagesS at h
  split at h <;> omega
end Go.Proofs.Ythahedpkefojdaa
