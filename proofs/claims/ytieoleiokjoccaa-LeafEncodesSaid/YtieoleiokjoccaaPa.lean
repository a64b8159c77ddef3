/- Plain laws of chapter 5: a branch's size and body. No program in sight. -/
import Derived.Test.YtieoleiokjoccaaKeyA
import Derived.Test.YtieoleiokjoccaaWa
namespace Go.Proofs.Ytieoleiokjoccaa

def kidOk (k : Int × Int) : Bool := decide (2 ≤ k.1 ∧ k.1 ≤ 524286 ∧ 1 ≤ k.2 ∧ k.2 ≤ 4294967295)
def sepOk (s : List UInt8) : Bool := decide (1 ≤ s.length ∧ s.length ≤ 255)
def sorted : List (List UInt8) → Bool
  | [] => true
  | [_] => true
  | a :: b :: l => decide (Key.cmpB a b < 0) && sorted (b :: l)
def vl (x : Nat) : Nat := (vF 9 x).length
def part (p : Nat) (s : List UInt8) : Nat := 10 + vl (s.length - p) + (s.length - p)
def sumP (p : Nat) : List (List UInt8) → Nat
  | [] => 0
  | s :: l => part p s + sumP p l
def sizeS (l : List (List UInt8)) : Nat := 12 + vl (Key.comAll l) + Key.comAll l + sumP (Key.comAll l) l
def shape (level : Int) (m n : Nat) : Bool := decide (1 ≤ level ∧ level ≤ 15 ∧ n ≠ 0 ∧ n = m + 1)
def wrongS (level : Int) (l : List (List UInt8)) (ks : List (Int × Int)) : Int :=
  if shape level l.length ks.length then if ks.all kidOk then if l.all sepOk then if sorted l then if 4092 < sizeS l then 42 else 0 else 30 else 41 else 51 else 50
def kidB (k : Int × Int) : List UInt8 := leB k.1.toNat 4 ++ leB k.2.toNat 4
def cellB (p : Nat) (z : List UInt8 × (Int × Int)) : List UInt8 := vF 9 (z.1.length - p) ++ (z.1.drop p ++ kidB z.2)
def cz (p : Nat) (zs : List (List UInt8 × (Int × Int))) : List UInt8 := zs.flatMap (cellB p)
def sz (base p : Nat) (zs : List (List UInt8 × (Int × Int))) (n : Nat) : List UInt8 := (List.range n).flatMap fun j => leB (base + (cz p (zs.take j)).length) 2
def zips (l : List (List UInt8)) (ks : List (Int × Int)) : List (List UInt8 × (Int × Int)) := List.zip l (ks.drop 1)
def headB (level : Int) (l : List (List UInt8)) (ks : List (Int × Int)) : List UInt8 :=
  [2, UInt8.ofNat level.toNat] ++ leB ks.length 2 ++ vF 9 (Key.comAll l) ++ (l.headD []).take (Key.comAll l)
def kid0 (ks : List (Int × Int)) : Int × Int := ks.headD (0, 0)
def frontB (level : Int) (l : List (List UInt8)) (ks : List (Int × Int)) : List UInt8 :=
  headB level l ks ++ sz ((headB level l ks).length + 2 * l.length + 8) (Key.comAll l) (zips l ks) l.length ++ kidB (kid0 ks)
def usedB (level : Int) (l : List (List UInt8)) (ks : List (Int × Int)) : List UInt8 := frontB level l ks ++ cz (Key.comAll l) (zips l ks)
def bodyB (level : Int) (l : List (List UInt8)) (ks : List (Int × Int)) : List UInt8 := usedB level l ks ++ List.replicate (4092 - sizeS l) 0
def encB (level : Int) (l : List (List UInt8)) (ks : List (Int × Int)) : List UInt8 × Int := if wrongS level l ks = 0 then (bodyB level l ks, 0) else ([], wrongS level l ks)
/-- b is the body of just this branch. -/
def IsBody (b : List UInt8) (level : Int) (l : List (List UInt8)) (ks : List (Int × Int)) : Prop := wrongS level l ks = 0 ∧ bodyB level l ks = b

theorem vl_bounds (x : Nat) : 1 ≤ vl x ∧ vl x ≤ 10 := vF_length 9 x
theorem sumP_append (p : Nat) (a b : List (List UInt8)) : sumP p (a ++ b) = sumP p a + sumP p b := by
  induction a with
  | nil => simp [sumP]
  | cons s a ih => rw [List.cons_append, sumP, sumP, ih]; omega
theorem sumP_step (p : Nat) (l : List (List UInt8)) (i : Nat) (s : List UInt8) (h : l[i]? = some s) : sumP p (l.take (i + 1)) = sumP p (l.take i) + part p s := by
  rw [List.take_add_one, h, sumP_append]; simp [sumP]
theorem sumP_le (p K : Nat) (l : List (List UInt8)) (h : ∀ s ∈ l, s.length ≤ K) : sumP p l ≤ l.length * (K + 20) := by
  induction l with
  | nil => simp [sumP]
  | cons s l ih =>
    have h1 := ih (fun x hx => h x (by simp [hx]))
    have h2 := h s (by simp)
    have h3 := vl_bounds (s.length - p)
    rw [sumP, List.length_cons, Nat.add_mul]
    unfold part
    omega
theorem sumP_take_le (p : Nat) (l : List (List UInt8)) (i : Nat) : sumP p (l.take i) ≤ sumP p l := by
  conv => rhs; rw [← List.take_append_drop i l, sumP_append]
  omega

/-! ### the common beginning -/
theorem com_min_le (x : List UInt8) (l : List (List UInt8)) (n : Nat) : l.foldl (fun n s => min n (Key.com x s)) n ≤ n := by
  induction l generalizing n with
  | nil => exact Nat.le_refl _
  | cons s l ih => exact Nat.le_trans (ih _) (Nat.min_le_left _ _)
theorem com_min_mem (x : List UInt8) (l : List (List UInt8)) (n : Nat) (s : List UInt8) (h : s ∈ l) : l.foldl (fun n s => min n (Key.com x s)) n ≤ Key.com x s := by
  induction l generalizing n with
  | nil => cases h
  | cons y l ih =>
    rcases List.mem_cons.1 h with rfl | h
    · exact Nat.le_trans (com_min_le x l _) (Nat.min_le_right _ _)
    · exact ih _ h
theorem com_self_take (a b : List UInt8) : a.take (Key.com a b) = b.take (Key.com a b) := by
  induction a generalizing b with
  | nil => rw [Key.com_nil]; simp
  | cons x a ih =>
    cases b with
    | nil => rw [Key.com_nil']; simp
    | cons y b =>
      rw [Key.com_cons]
      by_cases h : x = y
      · rw [if_pos h, List.take_succ_cons, List.take_succ_cons, ih b, h]
      · rw [if_neg h]; simp
theorem take_le_eq {a b : List UInt8} {n m : Nat} (h : a.take n = b.take n) (hm : m ≤ n) : a.take m = b.take m := by
  have := congrArg (List.take m) h
  rwa [List.take_take, List.take_take, Nat.min_eq_left hm] at this
theorem pre_take (l : List (List UInt8)) (s : List UInt8) (h : s ∈ l) : s.take (Key.comAll l) = (l.headD []).take (Key.comAll l) ∧ Key.comAll l ≤ s.length := by
  cases l with
  | nil => cases h
  | cons x l =>
    show s.take (l.foldl _ x.length) = x.take (l.foldl _ x.length) ∧ l.foldl _ x.length ≤ s.length
    rcases List.mem_cons.1 h with rfl | h
    · exact ⟨rfl, com_min_le s l _⟩
    · have h1 := com_min_mem x l x.length s h
      exact ⟨(take_le_eq (com_self_take x s) h1).symm, Nat.le_trans h1 (Key.com_le' x s)⟩
theorem pre_le_head (l : List (List UInt8)) (h : l ≠ []) : Key.comAll l ≤ (l.headD []).length := by
  cases l with
  | nil => exact absurd rfl h
  | cons x l => exact (pre_take (x :: l) x (by simp)).2
theorem pre_nil : Key.comAll [] = 0 := rfl

/-! ### lengths -/
theorem kidB_length (k : Int × Int) : (kidB k).length = 8 := by simp [kidB, leB_length]
theorem cellB_length (p : Nat) (z : List UInt8 × (Int × Int)) : (cellB p z).length = vl (z.1.length - p) + (z.1.length - p) + 8 := by
  unfold cellB vl
  rw [List.length_append, List.length_append, List.length_drop, kidB_length]; omega
theorem cz_append (p : Nat) (a b : List (List UInt8 × (Int × Int))) : cz p (a ++ b) = cz p a ++ cz p b := by simp [cz]
theorem cz_one (p : Nat) (z : List UInt8 × (Int × Int)) : cz p [z] = cellB p z := by simp [cz]
theorem cz_succ (p : Nat) (zs : List (List UInt8 × (Int × Int))) (i : Nat) (z : List UInt8 × (Int × Int)) (h : zs[i]? = some z) : cz p (zs.take (i + 1)) = cz p (zs.take i) ++ cellB p z := by
  rw [List.take_add_one, h, cz_append]; simp [cz]
theorem cz_cons (p : Nat) (z : List UInt8 × (Int × Int)) (zs : List (List UInt8 × (Int × Int))) : cz p (z :: zs) = cellB p z ++ cz p zs := by simp [cz]
theorem cz_length (p : Nat) (l : List (List UInt8)) (ks : List (Int × Int)) (h : ks.length = l.length) : (cz p (List.zip l ks)).length + 2 * l.length = sumP p l := by
  induction l generalizing ks with
  | nil => simp [cz, sumP]
  | cons s l ih =>
    cases ks with
    | nil => simp at h
    | cons k ks =>
      rw [List.zip_cons_cons, cz_cons, List.length_append, sumP, cellB_length]
      have := ih ks (by simpa using h)
      unfold part
      simp only [List.length_cons]
      omega
theorem sz_succ (base p : Nat) (zs : List (List UInt8 × (Int × Int))) (n : Nat) : sz base p zs (n + 1) = sz base p zs n ++ leB (base + (cz p (zs.take n)).length) 2 := by simp [sz, List.range_succ]
theorem sz_length (base p : Nat) (zs : List (List UInt8 × (Int × Int))) (n : Nat) : (sz base p zs n).length = 2 * n := by
  induction n with
  | zero => rfl
  | succ n ih => rw [sz_succ, List.length_append, ih, leB_length]; omega
theorem headB_length (level : Int) (l : List (List UInt8)) (ks : List (Int × Int)) : (headB level l ks).length = 4 + vl (Key.comAll l) + Key.comAll l := by
  unfold headB vl
  simp only [List.length_append, List.length_cons, List.length_nil, leB_length, List.length_take]
  have : min (Key.comAll l) (l.headD []).length = Key.comAll l := by
    by_cases h : l = []
    · subst h; rfl
    · exact Nat.min_eq_left (pre_le_head l h)
  rw [this]
theorem shape_iff {level : Int} {m n : Nat} : shape level m n = true ↔ 1 ≤ level ∧ level ≤ 15 ∧ n ≠ 0 ∧ n = m + 1 := by unfold shape; exact decide_eq_true_iff
theorem zips_length (l : List (List UInt8)) (ks : List (Int × Int)) (h : ks.length = l.length + 1) : (zips l ks).length = l.length := by
  unfold zips; rw [List.length_zip, List.length_drop]; omega
theorem usedB_length (level : Int) (l : List (List UInt8)) (ks : List (Int × Int)) (h : ks.length = l.length + 1) : (usedB level l ks).length = sizeS l := by
  unfold usedB frontB sizeS
  have hc := cz_length (Key.comAll l) l (ks.drop 1) (by rw [List.length_drop]; omega)
  simp only [List.length_append, headB_length, sz_length, kidB_length]
  unfold zips
  omega
structure Ok (level : Int) (l : List (List UInt8)) (ks : List (Int × Int)) : Prop where
  l1 : 1 ≤ level
  l2 : level ≤ 15
  n : ks.length = l.length + 1
  kids : ∀ k ∈ ks, kidOk k = true
  seps : ∀ s ∈ l, sepOk s = true
  sort : sorted l = true
  size : sizeS l ≤ 4092
theorem ok_of {level : Int} {l : List (List UInt8)} {ks : List (Int × Int)} (h : wrongS level l ks = 0) : Ok level l ks := by
  unfold wrongS at h
  by_cases h1 : shape level l.length ks.length = true
  · rw [if_pos h1] at h
    by_cases h2 : ks.all kidOk = true
    · rw [if_pos h2] at h
      by_cases h3 : l.all sepOk = true
      · rw [if_pos h3] at h
        by_cases h4 : sorted l = true
        · rw [if_pos h4] at h
          by_cases h5 : 4092 < sizeS l
          · rw [if_pos h5] at h; cases h
          · have q := shape_iff.1 h1
            exact ⟨q.1, q.2.1, q.2.2.2, fun k hk => List.all_eq_true.1 h2 k hk, fun s hs => List.all_eq_true.1 h3 s hs, h4, by omega⟩
        · rw [if_neg h4] at h; cases h
      · rw [if_neg h3] at h; cases h
    · rw [if_neg h2] at h; cases h
  · rw [if_neg h1] at h; cases h
theorem bodyB_length {level : Int} {l : List (List UInt8)} {ks : List (Int × Int)} (h : Ok level l ks) : (bodyB level l ks).length = 4092 := by
  unfold bodyB
  rw [List.length_append, usedB_length _ _ _ h.n, List.length_replicate]
  have := h.size
  omega
theorem sumP_ge (p : Nat) (l : List (List UInt8)) : 11 * l.length ≤ sumP p l := by
  induction l with
  | nil => simp [sumP]
  | cons s l ih =>
    have := vl_bounds (s.length - p)
    rw [sumP, List.length_cons]
    unfold part
    omega
theorem few_seps {level : Int} {l : List (List UInt8)} {ks : List (Int × Int)} (h : Ok level l ks) : l.length ≤ 372 := by
  have h1 := h.size
  have h2 := sumP_ge (Key.comAll l) l
  unfold sizeS at h1
  omega

/-! ### what the reader meets in a body -/
theorem kid_toNat {k : Int × Int} (h : kidOk k = true) : ((k.1.toNat : Nat) : Int) = k.1 ∧ ((k.2.toNat : Nat) : Int) = k.2 ∧ k.1.toNat < 256 ^ 4 ∧ k.2.toNat < 256 ^ 4 := by
  have := of_decide_eq_true h
  refine ⟨by omega, by omega, Nat.lt_of_le_of_lt (m := 524286) (by omega) (by decide), Nat.lt_of_le_of_lt (m := 4294967295) (by omega) (by decide)⟩
theorem numS_front (B : List UInt8) (at_ W x : Nat) (r : List UInt8) (h : B.drop at_ = leB x W ++ r) (hx : x < 256 ^ W) (hb : at_ + W ≤ B.length) : numS B at_ 0 W = (x, at_ + W, 0) := by
  unfold numS
  rw [if_pos ⟨rfl, hb⟩, h, List.take_left' (leB_length x W), unle_leB, Nat.mod_eq_of_lt hx]
theorem vS_front (B : List UInt8) (at_ x : Nat) (r : List UInt8) (h : B.drop at_ = vF 9 x ++ r) (hx : x < 18446744073709551616) : vS B at_ 0 = (x, at_ + vl x, 0) := by
  unfold vS
  rw [if_pos rfl, h, vOut_form x hx]; rfl
theorem bytesS_front (B : List UInt8) (at_ n : Nat) (x r : List UInt8) (h : B.drop at_ = x ++ r) (hx : x.length = n) (hb : at_ + n ≤ B.length) : bytesS B at_ 0 (n : Int) = (x, at_ + n, 0) := by
  unfold bytesS
  rw [if_pos ⟨rfl, by omega, by omega⟩, Int.toNat_natCast, h, List.take_left' hx]
theorem drop_more {B x r : List UInt8} {at_ : Nat} (h : B.drop at_ = x ++ r) : B.drop (at_ + x.length) = r := by
  rw [← List.drop_drop, h, List.drop_left]
theorem drop_len {B x r : List UInt8} {at_ : Nat} (h : B.drop at_ = x ++ r) (hx : 0 < x.length) : at_ + x.length ≤ B.length := by
  have := congrArg List.length h
  rw [List.length_drop, List.length_append] at this
  omega
end Go.Proofs.Ytieoleiokjoccaa
/- Plain laws of chapter 5: fewer separators are smaller; what is laid ahead of all of them counts once. No program in sight. -/
namespace Go.Proofs.Ytieoleiokjoccaa

theorem fold_ge (x : List UInt8) (l : List (List UInt8)) (n q : Nat) (hn : q ≤ n) (h : ∀ s ∈ l, q ≤ Key.com x s) : q ≤ l.foldl (fun n s => min n (Key.com x s)) n := by
  induction l generalizing n with
  | nil => exact hn
  | cons s l ih =>
    have h1 := h s (by simp)
    exact ih _ (Nat.le_min.2 ⟨hn, h1⟩) (fun y hy => h y (by simp [hy]))
theorem com_ge (a b : List UInt8) (q : Nat) (h : a.take q = b.take q) (ha : q ≤ a.length) (hb : q ≤ b.length) : q ≤ Key.com a b := by
  induction a generalizing b q with
  | nil => simp at ha; omega
  | cons x a ih =>
    cases b with
    | nil => simp at hb; omega
    | cons y b =>
      cases q with
      | zero => exact Nat.zero_le _
      | succ q =>
        rw [List.take_succ_cons, List.take_succ_cons] at h
        injection h with h1 h2
        rw [Key.com_cons, if_pos h1]
        have := ih b q h2 (by simpa using ha) (by simpa using hb)
        omega
theorem comAll_ge (l : List (List UInt8)) (h0 : l ≠ []) (q : Nat) (P : List UInt8) (h : ∀ s ∈ l, s.take q = P ∧ q ≤ s.length) : q ≤ Key.comAll l := by
  cases l with
  | nil => exact absurd rfl h0
  | cons x l =>
    have hx := h x (by simp)
    exact fold_ge x l _ q hx.2 fun s hs => by
      have hs' := h s (by simp [hs])
      exact com_ge x s q (hx.1.trans hs'.1.symm) hx.2 hs'.2
theorem comAll_sub {l' l : List (List UInt8)} (h : l'.Sublist l) (h0 : l' ≠ []) : Key.comAll l ≤ Key.comAll l' :=
  comAll_ge l' h0 _ ((l.headD []).take (Key.comAll l)) fun s hs => pre_take l s (h.subset hs)
theorem vF_mono (k x y : Nat) (h : x ≤ y) : (vF k x).length ≤ (vF k y).length := by
  induction k generalizing x y with
  | zero => simp [vF]
  | succ k ih =>
    by_cases hx : x < 128
    · rw [vF_small _ _ hx]
      have := (vF_length (k + 1) y).1
      simpa using this
    · rw [vF_big _ _ (by omega), vF_big _ _ (by omega), List.length_cons, List.length_cons]
      have := ih (x / 128) (y / 128) (Nat.div_le_div_right h)
      omega
theorem vl_mono {x y : Nat} (h : x ≤ y) : vl x ≤ vl y := vF_mono 9 x y h
theorem sumP_less (p p' : Nat) (l : List (List UInt8)) (hp : p ≤ p') (h0 : l ≠ []) (h : ∀ s ∈ l, p' ≤ s.length) : sumP p' l + (p' - p) ≤ sumP p l := by
  have one : ∀ s : List UInt8, p' ≤ s.length → part p' s + (p' - p) ≤ part p s := by
    intro s hs
    have := vl_mono (x := s.length - p') (y := s.length - p) (by omega)
    unfold part
    omega
  have all : ∀ l : List (List UInt8), (∀ s ∈ l, p' ≤ s.length) → sumP p' l ≤ sumP p l := by
    intro l
    induction l with
    | nil => intro _; exact Nat.le_refl _
    | cons s l ih =>
      intro h
      have h1 := one s (h s (by simp))
      have h2 := ih fun x hx => h x (by simp [hx])
      rw [sumP, sumP]; omega
  cases l with
  | nil => exact absurd rfl h0
  | cons s l =>
    have h1 := one s (h s (by simp))
    have h2 := all l fun x hx => h x (by simp [hx])
    rw [sumP, sumP]; omega
theorem sumP_sub (p : Nat) {l' l : List (List UInt8)} (h : l'.Sublist l) : sumP p l' + 11 * l.length ≤ sumP p l + 11 * l'.length := by
  induction h with
  | slnil => exact Nat.le_refl _
  | cons a _ ih =>
    have := vl_bounds (a.length - p)
    rw [sumP, List.length_cons]
    unfold part
    omega
  | cons_cons a _ ih =>
    rw [sumP, sumP, List.length_cons, List.length_cons]
    omega
theorem size_min (l : List (List UInt8)) : 13 ≤ sizeS l := by
  have := vl_bounds (Key.comAll l)
  unfold sizeS
  omega
/-- Fewer are smaller. -/
theorem size_fewer {l' l : List (List UInt8)} (h : l'.Sublist l) (hl : l'.length ≠ l.length) : sizeS l' < sizeS l := by
  have hlen := h.length_le
  by_cases h0 : l' = []
  · subst h0
    have h1 := sumP_ge (Key.comAll l) l
    have h2 := vl_bounds (Key.comAll l)
    have e : sizeS [] = 13 := by decide
    rw [e]
    unfold sizeS
    simp only [List.length_nil] at hl
    omega
  · have hp := comAll_sub h h0
    have h1 := sumP_less (Key.comAll l) (Key.comAll l') l' hp h0 fun s hs => (pre_take l' s hs).2
    have h2 := sumP_sub (Key.comAll l) h
    have h3 := vl_bounds (Key.comAll l)
    have h4 := vl_bounds (Key.comAll l')
    unfold sizeS
    omega

/-! ### what is left in -/
/-- Of the first n those that no mark leaves out. -/
def keepF (l : List (List UInt8)) (v : List Bool) (n : Nat) : List (List UInt8) := (List.range n).filterMap fun i => if v.getD i false then none else l[i]?
theorem keepF_out {l : List (List UInt8)} {v : List Bool} {n : Nat} (h : v.getD n false = true) : keepF l v (n + 1) = keepF l v n := by
  rw [List.getD_eq_getElem?_getD] at h
  unfold keepF
  rw [List.range_succ, List.filterMap_append]
  simp [h]
theorem keepF_in {l : List (List UInt8)} {v : List Bool} {n : Nat} {s : List UInt8} (h : v.getD n false = false) (hs : l[n]? = some s) : keepF l v (n + 1) = keepF l v n ++ [s] := by
  rw [List.getD_eq_getElem?_getD] at h
  unfold keepF
  rw [List.range_succ, List.filterMap_append]
  simp [List.filterMap, h, hs]
theorem keepF_sub (l : List (List UInt8)) (v : List Bool) (n : Nat) : (keepF l v n).Sublist (l.take n) := by
  induction n with
  | zero => simp [keepF]
  | succ n ih =>
    rcases hb : v.getD n false with _ | _
    · rcases hs : l[n]? with _ | s
      · have e : keepF l v (n + 1) = keepF l v n := by
          unfold keepF
          rw [List.range_succ, List.filterMap_append]
          simp [hs]
        rw [e, List.take_add_one, hs]
        simpa using ih
      · rw [keepF_in hb hs, List.take_add_one, hs]
        exact ih.append (List.Sublist.refl _)
    · rw [keepF_out hb, List.take_add_one]
      exact ih.trans (List.sublist_append_left _ _)
theorem keepF_all (l : List (List UInt8)) (v : List Bool) : (keepF l v l.length).Sublist l := by
  have := keepF_sub l v l.length
  rwa [List.take_length] at this

/-! ### laid ahead of each -/
theorem com_ahead (z a b : List UInt8) : Key.com (z ++ a) (z ++ b) = z.length + Key.com a b := by
  induction z with
  | nil => simp
  | cons x z ih =>
    rw [List.cons_append, List.cons_append, Key.com_cons, if_pos rfl, ih, List.length_cons]
    omega
theorem fold_ahead (z x : List UInt8) (l : List (List UInt8)) (n : Nat) : (l.map (z ++ ·)).foldl (fun n s => min n (Key.com (z ++ x) s)) (z.length + n) = z.length + l.foldl (fun n s => min n (Key.com x s)) n := by
  induction l generalizing n with
  | nil => rfl
  | cons s l ih =>
    rw [List.map_cons, List.foldl_cons, List.foldl_cons, com_ahead, show min (z.length + n) (z.length + Key.com x s) = z.length + min n (Key.com x s) by omega]
    exact ih _
theorem comAll_ahead (z : List UInt8) (l : List (List UInt8)) (h0 : l ≠ []) : Key.comAll (l.map (z ++ ·)) = z.length + Key.comAll l := by
  cases l with
  | nil => exact absurd rfl h0
  | cons x l =>
    show (l.map (z ++ ·)).foldl _ (z ++ x).length = z.length + l.foldl _ x.length
    rw [List.length_append]
    exact fold_ahead z x l _
theorem sumP_ahead (z : List UInt8) (p : Nat) (l : List (List UInt8)) : sumP (z.length + p) (l.map (z ++ ·)) = sumP p l := by
  induction l with
  | nil => rfl
  | cons s l ih =>
    rw [List.map_cons, sumP, sumP, ih]
    unfold part
    rw [List.length_append, show z.length + s.length - (z.length + p) = s.length - p by omega]
theorem size_ahead (z : List UInt8) (l : List (List UInt8)) (h0 : l ≠ []) : sizeS (l.map (z ++ ·)) + vl (Key.comAll l) = sizeS l + z.length + vl (z.length + Key.comAll l) := by
  unfold sizeS
  rw [comAll_ahead z l h0, sumP_ahead]
  omega
/-- of the first i the least that each has in common with the first one. -/
theorem com_self (x : List UInt8) : Key.com x x = x.length := by
  induction x with
  | nil => rfl
  | cons a x ih => rw [Key.com_cons, if_pos rfl, ih, List.length_cons]
theorem comAll_head (x : List UInt8) (l : List (List UInt8)) : Key.comAll (x :: l) = (x :: l).foldl (fun n s => min n (Key.com x s)) x.length := by
  rw [List.foldl_cons, com_self, Nat.min_self]; rfl
end Go.Proofs.Ytieoleiokjoccaa
