/- Plain laws of chapter 5: a branch's size and body. No program in sight. -/
import Derived.Test.YtmeakhiiebeneaaGreatDoorKeyA
import Derived.Test.YtmeakhiiebeneaaGreatDoorM1
namespace Go.Proofs.YtmeakhiiebeneaaGreatDoor

def kidOk (k : Int × Int) : Bool := decide (2 ≤ k.1 ∧ k.1 ≤ 524286 ∧ 1 ≤ k.2 ∧ k.2 ≤ 4294967295)
def sepOk (s : List UInt8) : Bool := decide (1 ≤ s.length ∧ s.length ≤ 255)
def sorted : List (List UInt8) → Bool
  | [] => true
  | [_] => true
  | a :: b :: l => decide (Key.cmpB a b < 0) && sorted (b :: l)
def vl (x : Nat) : Nat := (vF 9 x).length
def part (p : Nat) (s : List UInt8) : Nat := 10 + vl (s.length - p) + (s.length - p)
def sumP (p : Nat) : List (List UInt8) → Nat
  | [] => 0
  | s :: l => part p s + sumP p l
def sizeS (l : List (List UInt8)) : Nat := 12 + vl (Key.comAll l) + Key.comAll l + sumP (Key.comAll l) l
def shape (level : Int) (m n : Nat) : Bool := decide (1 ≤ level ∧ level ≤ 15 ∧ n ≠ 0 ∧ n = m + 1)
def wrongS (level : Int) (l : List (List UInt8)) (ks : List (Int × Int)) : Int :=
  if shape level l.length ks.length then if ks.all kidOk then if l.all sepOk then if sorted l then if 4092 < sizeS l then 42 else 0 else 30 else 41 else 51 else 50
def kidB (k : Int × Int) : List UInt8 := leB k.1.toNat 4 ++ leB k.2.toNat 4
def cellB (p : Nat) (z : List UInt8 × (Int × Int)) : List UInt8 := vF 9 (z.1.length - p) ++ (z.1.drop p ++ kidB z.2)
def cz (p : Nat) (zs : List (List UInt8 × (Int × Int))) : List UInt8 := zs.flatMap (cellB p)
def sz (base p : Nat) (zs : List (List UInt8 × (Int × Int))) (n : Nat) : List UInt8 := (List.range n).flatMap fun j => leB (base + (cz p (zs.take j)).length) 2
def zips (l : List (List UInt8)) (ks : List (Int × Int)) : List (List UInt8 × (Int × Int)) := List.zip l (ks.drop 1)
def headB (level : Int) (l : List (List UInt8)) (ks : List (Int × Int)) : List UInt8 :=
  [2, UInt8.ofNat level.toNat] ++ leB ks.length 2 ++ vF 9 (Key.comAll l) ++ (l.headD []).take (Key.comAll l)
def kid0 (ks : List (Int × Int)) : Int × Int := ks.headD (0, 0)
def frontB (level : Int) (l : List (List UInt8)) (ks : List (Int × Int)) : List UInt8 :=
  headB level l ks ++ sz ((headB level l ks).length + 2 * l.length + 8) (Key.comAll l) (zips l ks) l.length ++ kidB (kid0 ks)
def usedB (level : Int) (l : List (List UInt8)) (ks : List (Int × Int)) : List UInt8 := frontB level l ks ++ cz (Key.comAll l) (zips l ks)
def bodyB (level : Int) (l : List (List UInt8)) (ks : List (Int × Int)) : List UInt8 := usedB level l ks ++ List.replicate (4092 - sizeS l) 0
def encB (level : Int) (l : List (List UInt8)) (ks : List (Int × Int)) : List UInt8 × Int := if wrongS level l ks = 0 then (bodyB level l ks, 0) else ([], wrongS level l ks)
/-- b is the body of just this branch. -/
def IsBody (b : List UInt8) (level : Int) (l : List (List UInt8)) (ks : List (Int × Int)) : Prop := wrongS level l ks = 0 ∧ bodyB level l ks = b

theorem vl_bounds (x : Nat) : 1 ≤ vl x ∧ vl x ≤ 10 := vF_length 9 x
theorem sumP_append (p : Nat) (a b : List (List UInt8)) : sumP p (a ++ b) = sumP p a + sumP p b := by
  induction a with
  | nil => simp [sumP]
  | cons s a ih => rw [List.cons_append, sumP, sumP, ih]; omega
theorem sumP_step (p : Nat) (l : List (List UInt8)) (i : Nat) (s : List UInt8) (h : l[i]? = some s) : sumP p (l.take (i + 1)) = sumP p (l.take i) + part p s := by
  rw [List.take_add_one, h, sumP_append]; simp [sumP]
theorem sumP_le (p K : Nat) (l : List (List UInt8)) (h : ∀ s ∈ l, s.length ≤ K) : sumP p l ≤ l.length * (K + 20) := by
  induction l with
  | nil => simp [sumP]
  | cons s l ih =>
    have h1 := ih (fun x hx => h x (by simp [hx]))
    have h2 := h s (by simp)
    have h3 := vl_bounds (s.length - p)
    rw [sumP, List.length_cons, Nat.add_mul]
    unfold part
    omega
theorem sumP_take_le (p : Nat) (l : List (List UInt8)) (i : Nat) : sumP p (l.take i) ≤ sumP p l := by
  conv => rhs; rw [← List.take_append_drop i l, sumP_append]
  omega

/-! ### the common beginning -/
theorem com_min_le (x : List UInt8) (l : List (List UInt8)) (n : Nat) : l.foldl (fun n s => min n (Key.com x s)) n ≤ n := by
  induction l generalizing n with
  | nil => exact Nat.le_refl _
  | cons s l ih => exact Nat.le_trans (ih _) (Nat.min_le_left _ _)
theorem com_min_mem (x : List UInt8) (l : List (List UInt8)) (n : Nat) (s : List UInt8) (h : s ∈ l) : l.foldl (fun n s => min n (Key.com x s)) n ≤ Key.com x s := by
  induction l generalizing n with
  | nil => cases h
  | cons y l ih =>
    rcases List.mem_cons.1 h with rfl | h
    · exact Nat.le_trans (com_min_le x l _) (Nat.min_le_right _ _)
    · exact ih _ h
theorem com_self_take (a b : List UInt8) : a.take (Key.com a b) = b.take (Key.com a b) := by
  induction a generalizing b with
  | nil => rw [Key.com_nil]; simp
  | cons x a ih =>
    cases b with
    | nil => rw [Key.com_nil']; simp
    | cons y b =>
      rw [Key.com_cons]
      by_cases h : x = y
      · rw [if_pos h, List.take_succ_cons, List.take_succ_cons, ih b, h]
      · rw [if_neg h]; simp
theorem take_le_eq {a b : List UInt8} {n m : Nat} (h : a.take n = b.take n) (hm : m ≤ n) : a.take m = b.take m := by
  have := congrArg (List.take m) h
  rwa [List.take_take, List.take_take, Nat.min_eq_left hm] at this
theorem pre_take (l : List (List UInt8)) (s : List UInt8) (h : s ∈ l) : s.take (Key.comAll l) = (l.headD []).take (Key.comAll l) ∧ Key.comAll l ≤ s.length := by
  cases l with
  | nil => cases h
  | cons x l =>
    show s.take (l.foldl _ x.length) = x.take (l.foldl _ x.length) ∧ l.foldl _ x.length ≤ s.length
    rcases List.mem_cons.1 h with rfl | h
    · exact ⟨rfl, com_min_le s l _⟩
    · have h1 := com_min_mem x l x.length s h
      exact ⟨(take_le_eq (com_self_take x s) h1).symm, Nat.le_trans h1 (Key.com_le' x s)⟩
theorem pre_le_head (l : List (List UInt8)) (h : l ≠ []) : Key.comAll l ≤ (l.headD []).length := by
  cases l with
  | nil => exact absurd rfl h
  | cons x l => exact (pre_take (x :: l) x (by simp)).2
theorem pre_nil : Key.comAll [] = 0 := rfl

/-! ### lengths -/
theorem kidB_length (k : Int × Int) : (kidB k).length = 8 := by simp [kidB, leB_length]
theorem cellB_length (p : Nat) (z : List UInt8 × (Int × Int)) : (cellB p z).length = vl (z.1.length - p) + (z.1.length - p) + 8 := by
  unfold cellB vl
  rw [List.length_append, List.length_append, List.length_drop, kidB_length]; omega
theorem cz_append (p : Nat) (a b : List (List UInt8 × (Int × Int))) : cz p (a ++ b) = cz p a ++ cz p b := by simp [cz]
theorem cz_one (p : Nat) (z : List UInt8 × (Int × Int)) : cz p [z] = cellB p z := by simp [cz]
theorem cz_succ (p : Nat) (zs : List (List UInt8 × (Int × Int))) (i : Nat) (z : List UInt8 × (Int × Int)) (h : zs[i]? = some z) : cz p (zs.take (i + 1)) = cz p (zs.take i) ++ cellB p z := by
  rw [List.take_add_one, h, cz_append]; simp [cz]
theorem cz_cons (p : Nat) (z : List UInt8 × (Int × Int)) (zs : List (List UInt8 × (Int × Int))) : cz p (z :: zs) = cellB p z ++ cz p zs := by simp [cz]
theorem cz_length (p : Nat) (l : List (List UInt8)) (ks : List (Int × Int)) (h : ks.length = l.length) : (cz p (List.zip l ks)).length + 2 * l.length = sumP p l := by
  induction l generalizing ks with
  | nil => simp [cz, sumP]
  | cons s l ih =>
    cases ks with
    | nil => simp at h
    | cons k ks =>
      rw [List.zip_cons_cons, cz_cons, List.length_append, sumP, cellB_length]
      have := ih ks (by simpa using h)
      unfold part
      simp only [List.length_cons]
      omega
theorem sz_succ (base p : Nat) (zs : List (List UInt8 × (Int × Int))) (n : Nat) : sz base p zs (n + 1) = sz base p zs n ++ leB (base + (cz p (zs.take n)).length) 2 := by simp [sz, List.range_succ]
theorem sz_length (base p : Nat) (zs : List (List UInt8 × (Int × Int))) (n : Nat) : (sz base p zs n).length = 2 * n := by
  induction n with
  | zero => rfl
  | succ n ih => rw [sz_succ, List.length_append, ih, leB_length]; omega
theorem headB_length (level : Int) (l : List (List UInt8)) (ks : List (Int × Int)) : (headB level l ks).length = 4 + vl (Key.comAll l) + Key.comAll l := by
  unfold headB vl
  simp only [List.length_append, List.length_cons, List.length_nil, leB_length, List.length_take]
  have : min (Key.comAll l) (l.headD []).length = Key.comAll l := by
    by_cases h : l = []
    · subst h; rfl
    · exact Nat.min_eq_left (pre_le_head l h)
  rw [this]
theorem shape_iff {level : Int} {m n : Nat} : shape level m n = true ↔ 1 ≤ level ∧ level ≤ 15 ∧ n ≠ 0 ∧ n = m + 1 := by unfold shape; exact decide_eq_true_iff
theorem zips_length (l : List (List UInt8)) (ks : List (Int × Int)) (h : ks.length = l.length + 1) : (zips l ks).length = l.length := by
  unfold zips; rw [List.length_zip, List.length_drop]; omega
theorem usedB_length (level : Int) (l : List (List UInt8)) (ks : List (Int × Int)) (h : ks.length = l.length + 1) : (usedB level l ks).length = sizeS l := by
  unfold usedB frontB sizeS
  have hc := cz_length (Key.comAll l) l (ks.drop 1) (by rw [List.length_drop]; omega)
  simp only [List.length_append, headB_length, sz_length, kidB_length]
  unfold zips
  omega
structure Ok (level : Int) (l : List (List UInt8)) (ks : List (Int × Int)) : Prop where
  l1 : 1 ≤ level
  l2 : level ≤ 15
  n : ks.length = l.length + 1
  kids : ∀ k ∈ ks, kidOk k = true
  seps : ∀ s ∈ l, sepOk s = true
  sort : sorted l = true
  size : sizeS l ≤ 4092
theorem ok_of {level : Int} {l : List (List UInt8)} {ks : List (Int × Int)} (h : wrongS level l ks = 0) : Ok level l ks := by
  unfold wrongS at h
  by_cases h1 : shape level l.length ks.length = true
  · rw [if_pos h1] at h
    by_cases h2 : ks.all kidOk = true
    · rw [if_pos h2] at h
      by_cases h3 : l.all sepOk = true
      · rw [if_pos h3] at h
        by_cases h4 : sorted l = true
        · rw [if_pos h4] at h
          by_cases h5 : 4092 < sizeS l
          · rw [if_pos h5] at h; cases h
          · have q := shape_iff.1 h1
            exact ⟨q.1, q.2.1, q.2.2.2, fun k hk => List.all_eq_true.1 h2 k hk, fun s hs => List.all_eq_true.1 h3 s hs, h4, by omega⟩
        · rw [if_neg h4] at h; cases h
      · rw [if_neg h3] at h; cases h
    · rw [if_neg h2] at h; cases h
  · rw [if_neg h1] at h; cases h
theorem bodyB_length {level : Int} {l : List (List UInt8)} {ks : List (Int × Int)} (h : Ok level l ks) : (bodyB level l ks).length = 4092 := by
  unfold bodyB
  rw [List.length_append, usedB_length _ _ _ h.n, List.length_replicate]
  have := h.size
  omega
theorem sumP_ge (p : Nat) (l : List (List UInt8)) : 11 * l.length ≤ sumP p l := by
  induction l with
  | nil => simp [sumP]
  | cons s l ih =>
    have := vl_bounds (s.length - p)
    rw [sumP, List.length_cons]
    unfold part
    omega
theorem few_seps {level : Int} {l : List (List UInt8)} {ks : List (Int × Int)} (h : Ok level l ks) : l.length ≤ 372 := by
  have h1 := h.size
  have h2 := sumP_ge (Key.comAll l) l
  unfold sizeS at h1
  omega

/-! ### what the reader meets in a body -/
theorem kid_toNat {k : Int × Int} (h : kidOk k = true) : ((k.1.toNat : Nat) : Int) = k.1 ∧ ((k.2.toNat : Nat) : Int) = k.2 ∧ k.1.toNat < 256 ^ 4 ∧ k.2.toNat < 256 ^ 4 := by
  have := of_decide_eq_true h
  refine ⟨by omega, by omega, Nat.lt_of_le_of_lt (m := 524286) (by omega) (by decide), Nat.lt_of_le_of_lt (m := 4294967295) (by omega) (by decide)⟩
theorem numS_front (B : List UInt8) (at_ W x : Nat) (r : List UInt8) (h : B.drop at_ = leB x W ++ r) (hx : x < 256 ^ W) (hb : at_ + W ≤ B.length) : numS B at_ 0 W = (x, at_ + W, 0) := by
  unfold numS
  rw [if_pos ⟨rfl, hb⟩, h, List.take_left' (leB_length x W), unle_leB, Nat.mod_eq_of_lt hx]
theorem vS_front (B : List UInt8) (at_ x : Nat) (r : List UInt8) (h : B.drop at_ = vF 9 x ++ r) (hx : x < 18446744073709551616) : vS B at_ 0 = (x, at_ + vl x, 0) := by
  unfold vS
  rw [if_pos rfl, h, vOut_form x hx]; rfl
theorem bytesS_front (B : List UInt8) (at_ n : Nat) (x r : List UInt8) (h : B.drop at_ = x ++ r) (hx : x.length = n) (hb : at_ + n ≤ B.length) : bytesS B at_ 0 (n : Int) = (x, at_ + n, 0) := by
  unfold bytesS
  rw [if_pos ⟨rfl, by omega, by omega⟩, Int.toNat_natCast, h, List.take_left' hx]
theorem drop_more {B x r : List UInt8} {at_ : Nat} (h : B.drop at_ = x ++ r) : B.drop (at_ + x.length) = r := by
  rw [← List.drop_drop, h, List.drop_left]
theorem drop_len {B x r : List UInt8} {at_ : Nat} (h : B.drop at_ = x ++ r) (hx : 0 < x.length) : at_ + x.length ≤ B.length := by
  have := congrArg List.length h
  rw [List.length_drop, List.length_append] at this
  omega
end Go.Proofs.YtmeakhiiebeneaaGreatDoor
/- Plain laws of chapter 5: fewer separators are smaller; what is laid ahead of all of them counts once. No program in sight. -/
namespace Go.Proofs.YtmeakhiiebeneaaGreatDoor

theorem fold_ge (x : List UInt8) (l : List (List UInt8)) (n q : Nat) (hn : q ≤ n) (h : ∀ s ∈ l, q ≤ Key.com x s) : q ≤ l.foldl (fun n s => min n (Key.com x s)) n := by
  induction l generalizing n with
  | nil => exact hn
  | cons s l ih =>
    have h1 := h s (by simp)
    exact ih _ (Nat.le_min.2 ⟨hn, h1⟩) (fun y hy => h y (by simp [hy]))
theorem com_ge (a b : List UInt8) (q : Nat) (h : a.take q = b.take q) (ha : q ≤ a.length) (hb : q ≤ b.length) : q ≤ Key.com a b := by
  induction a generalizing b q with
  | nil => simp at ha; omega
  | cons x a ih =>
    cases b with
    | nil => simp at hb; omega
    | cons y b =>
      cases q with
      | zero => exact Nat.zero_le _
      | succ q =>
        rw [List.take_succ_cons, List.take_succ_cons] at h
        injection h with h1 h2
        rw [Key.com_cons, if_pos h1]
        have := ih b q h2 (by simpa using ha) (by simpa using hb)
        omega
theorem comAll_ge (l : List (List UInt8)) (h0 : l ≠ []) (q : Nat) (P : List UInt8) (h : ∀ s ∈ l, s.take q = P ∧ q ≤ s.length) : q ≤ Key.comAll l := by
  cases l with
  | nil => exact absurd rfl h0
  | cons x l =>
    have hx := h x (by simp)
    exact fold_ge x l _ q hx.2 fun s hs => by
      have hs' := h s (by simp [hs])
      exact com_ge x s q (hx.1.trans hs'.1.symm) hx.2 hs'.2
theorem comAll_sub {l' l : List (List UInt8)} (h : l'.Sublist l) (h0 : l' ≠ []) : Key.comAll l ≤ Key.comAll l' :=
  comAll_ge l' h0 _ ((l.headD []).take (Key.comAll l)) fun s hs => pre_take l s (h.subset hs)
theorem vF_mono (k x y : Nat) (h : x ≤ y) : (vF k x).length ≤ (vF k y).length := by
  induction k generalizing x y with
  | zero => simp [vF]
  | succ k ih =>
    by_cases hx : x < 128
    · rw [vF_small _ _ hx]
      have := (vF_length (k + 1) y).1
      simpa using this
    · rw [vF_big _ _ (by omega), vF_big _ _ (by omega), List.length_cons, List.length_cons]
      have := ih (x / 128) (y / 128) (Nat.div_le_div_right h)
      omega
theorem vl_mono {x y : Nat} (h : x ≤ y) : vl x ≤ vl y := vF_mono 9 x y h
theorem sumP_less (p p' : Nat) (l : List (List UInt8)) (hp : p ≤ p') (h0 : l ≠ []) (h : ∀ s ∈ l, p' ≤ s.length) : sumP p' l + (p' - p) ≤ sumP p l := by
  have one : ∀ s : List UInt8, p' ≤ s.length → part p' s + (p' - p) ≤ part p s := by
    intro s hs
    have := vl_mono (x := s.length - p') (y := s.length - p) (by omega)
    unfold part
    omega
  have all : ∀ l : List (List UInt8), (∀ s ∈ l, p' ≤ s.length) → sumP p' l ≤ sumP p l := by
    intro l
    induction l with
    | nil => intro _; exact Nat.le_refl _
    | cons s l ih =>
      intro h
      have h1 := one s (h s (by simp))
      have h2 := ih fun x hx => h x (by simp [hx])
      rw [sumP, sumP]; omega
  cases l with
  | nil => exact absurd rfl h0
  | cons s l =>
    have h1 := one s (h s (by simp))
    have h2 := all l fun x hx => h x (by simp [hx])
    rw [sumP, sumP]; omega
theorem sumP_sub (p : Nat) {l' l : List (List UInt8)} (h : l'.Sublist l) : sumP p l' + 11 * l.length ≤ sumP p l + 11 * l'.length := by
  induction h with
  | slnil => exact Nat.le_refl _
  | cons a _ ih =>
    have := vl_bounds (a.length - p)
    rw [sumP, List.length_cons]
    unfold part
    omega
  | cons_cons a _ ih =>
    rw [sumP, sumP, List.length_cons, List.length_cons]
    omega
theorem size_min (l : List (List UInt8)) : 13 ≤ sizeS l := by
  have := vl_bounds (Key.comAll l)
  unfold sizeS
  omega
/-- Fewer are smaller. -/
theorem size_fewer {l' l : List (List UInt8)} (h : l'.Sublist l) (hl : l'.length ≠ l.length) : sizeS l' < sizeS l := by
  have hlen := h.length_le
  by_cases h0 : l' = []
  · subst h0
    have h1 := sumP_ge (Key.comAll l) l
    have h2 := vl_bounds (Key.comAll l)
    have e : sizeS [] = 13 := by decide
    rw [e]
    unfold sizeS
    simp only [List.length_nil] at hl
    omega
  · have hp := comAll_sub h h0
    have h1 := sumP_less (Key.comAll l) (Key.comAll l') l' hp h0 fun s hs => (pre_take l' s hs).2
    have h2 := sumP_sub (Key.comAll l) h
    have h3 := vl_bounds (Key.comAll l)
    have h4 := vl_bounds (Key.comAll l')
    unfold sizeS
    omega

/-! ### what is left in -/
/-- Of the first n those that no mark leaves out. -/
def keepF (l : List (List UInt8)) (v : List Bool) (n : Nat) : List (List UInt8) := (List.range n).filterMap fun i => if v.getD i false then none else l[i]?
theorem keepF_out {l : List (List UInt8)} {v : List Bool} {n : Nat} (h : v.getD n false = true) : keepF l v (n + 1) = keepF l v n := by
  rw [List.getD_eq_getElem?_getD] at h
  unfold keepF
  rw [List.range_succ, List.filterMap_append]
  simp [h]
theorem keepF_in {l : List (List UInt8)} {v : List Bool} {n : Nat} {s : List UInt8} (h : v.getD n false = false) (hs : l[n]? = some s) : keepF l v (n + 1) = keepF l v n ++ [s] := by
  rw [List.getD_eq_getElem?_getD] at h
  unfold keepF
  rw [List.range_succ, List.filterMap_append]
  simp [List.filterMap, h, hs]
theorem keepF_sub (l : List (List UInt8)) (v : List Bool) (n : Nat) : (keepF l v n).Sublist (l.take n) := by
  induction n with
  | zero => simp [keepF]
  | succ n ih =>
    rcases hb : v.getD n false with _ | _
    · rcases hs : l[n]? with _ | s
      · have e : keepF l v (n + 1) = keepF l v n := by
          unfold keepF
          rw [List.range_succ, List.filterMap_append]
          simp [hs]
        rw [e, List.take_add_one, hs]
        simpa using ih
      · rw [keepF_in hb hs, List.take_add_one, hs]
        exact ih.append (List.Sublist.refl _)
    · rw [keepF_out hb, List.take_add_one]
      exact ih.trans (List.sublist_append_left _ _)
theorem keepF_all (l : List (List UInt8)) (v : List Bool) : (keepF l v l.length).Sublist l := by
  have := keepF_sub l v l.length
  rwa [List.take_length] at this

/-! ### laid ahead of each -/
theorem com_ahead (z a b : List UInt8) : Key.com (z ++ a) (z ++ b) = z.length + Key.com a b := by
  induction z with
  | nil => simp
  | cons x z ih =>
    rw [List.cons_append, List.cons_append, Key.com_cons, if_pos rfl, ih, List.length_cons]
    omega
theorem fold_ahead (z x : List UInt8) (l : List (List UInt8)) (n : Nat) : (l.map (z ++ ·)).foldl (fun n s => min n (Key.com (z ++ x) s)) (z.length + n) = z.length + l.foldl (fun n s => min n (Key.com x s)) n := by
  induction l generalizing n with
  | nil => rfl
  | cons s l ih =>
    rw [List.map_cons, List.foldl_cons, List.foldl_cons, com_ahead, show min (z.length + n) (z.length + Key.com x s) = z.length + min n (Key.com x s) by omega]
    exact ih _
theorem comAll_ahead (z : List UInt8) (l : List (List UInt8)) (h0 : l ≠ []) : Key.comAll (l.map (z ++ ·)) = z.length + Key.comAll l := by
  cases l with
  | nil => exact absurd rfl h0
  | cons x l =>
    show (l.map (z ++ ·)).foldl _ (z ++ x).length = z.length + l.foldl _ x.length
    rw [List.length_append]
    exact fold_ahead z x l _
theorem sumP_ahead (z : List UInt8) (p : Nat) (l : List (List UInt8)) : sumP (z.length + p) (l.map (z ++ ·)) = sumP p l := by
  induction l with
  | nil => rfl
  | cons s l ih =>
    rw [List.map_cons, sumP, sumP, ih]
    unfold part
    rw [List.length_append, show z.length + s.length - (z.length + p) = s.length - p by omega]
theorem size_ahead (z : List UInt8) (l : List (List UInt8)) (h0 : l ≠ []) : sizeS (l.map (z ++ ·)) + vl (Key.comAll l) = sizeS l + z.length + vl (z.length + Key.comAll l) := by
  unfold sizeS
  rw [comAll_ahead z l h0, sumP_ahead]
  omega
/-- of the first i the least that each has in common with the first one. -/
theorem com_self (x : List UInt8) : Key.com x x = x.length := by
  induction x with
  | nil => rfl
  | cons a x ih => rw [Key.com_cons, if_pos rfl, ih, List.length_cons]
theorem comAll_head (x : List UInt8) (l : List (List UInt8)) : Key.comAll (x :: l) = (x :: l).foldl (fun n s => min n (Key.com x s)) x.length := by
  rw [List.foldl_cons, com_self, Nat.min_self]; rfl
end Go.Proofs.YtmeakhiiebeneaaGreatDoor
namespace Go.Proofs.YtmeakhiiebeneaaGreatDoor

structure It where
  k : List UInt8
  v : List UInt8
  s : Int
  f : Int
def keysT (l : List It) : List (List UInt8) := l.map It.k
def preT (l : List It) : Nat := Key.comAll (keysT l)
def clampT (s : Int) : Nat := min s.toNat 262144
def tagT (n : Nat) : Nat := if 512 < n then 2 * n + 1 else 2 * n
def inT (n : Nat) : Nat := if 512 < n then 4 else n
def partT (p : Nat) (x : It) : Nat := 2 + vl (x.k.length - p) + (x.k.length - p) + vl (tagT (clampT x.s)) + inT (clampT x.s)
def sumT (p : Nat) : List It → Nat
  | [] => 0
  | x :: l => partT p x + sumT p l
def sizeT (l : List It) : Nat := 3 + vl (preT l) + preT l + sumT (preT l) l
def lenOk (x : It) : Bool := decide (1 ≤ x.k.length ∧ x.k.length ≤ 255 ∧ 0 ≤ x.s ∧ x.s ≤ 262144)
def holdT (x : It) : Bool := if 512 < x.s then decide (x.v.length = 0 ∧ 2 ≤ x.f ∧ x.f < 524287) else decide ((x.v.length : Int) = x.s ∧ x.f = 0)
def wrongT (l : List It) : Int :=
  if l.length = 0 then 40 else if l.all lenOk then if l.all holdT then if sorted (keysT l) then 0 else 30 else 40 else 41
def errT (l : List It) : Int := if wrongT l = 0 then if 4092 < sizeT l then 42 else 0 else wrongT l
def restT (x : It) : List UInt8 := if 512 < x.s then vF 9 (2 * x.s.toNat + 1) ++ leB x.f.toNat 4 else vF 9 (2 * x.s.toNat) ++ x.v
def cellT (p : Nat) (x : It) : List UInt8 := vF 9 (x.k.length - p) ++ (x.k.drop p ++ restT x)
def ct (p : Nat) (l : List It) : List UInt8 := l.flatMap (cellT p)
def slT (base p : Nat) (l : List It) (n : Nat) : List UInt8 := (List.range n).flatMap fun j => leB (base + (ct p (l.take j)).length) 2
def headT (l : List It) : List UInt8 := [1] ++ leB l.length 2 ++ vF 9 (preT l) ++ ((keysT l).headD []).take (preT l)
def usedT (l : List It) : List UInt8 := headT l ++ slT ((headT l).length + 2 * l.length) (preT l) l l.length ++ ct (preT l) l
def bodyT (l : List It) : List UInt8 := usedT l ++ zer (4092 - sizeT l)
def encT (l : List It) : List UInt8 × Int := if errT l = 0 then (bodyT l, 0) else ([], errT l)
structure OkT (l : List It) : Prop where
  n : l ≠ []
  len : ∀ x ∈ l, lenOk x = true
  hold : ∀ x ∈ l, holdT x = true
  sort : sorted (keysT l) = true
  size : sizeT l ≤ 4092
theorem okT_of {l : List It} (h : errT l = 0) : OkT l := by
  unfold errT at h
  by_cases hw : wrongT l = 0
  · rw [if_pos hw] at h
    by_cases hs : 4092 < sizeT l
    · rw [if_pos hs] at h; cases h
    · unfold wrongT at hw
      by_cases h0 : l.length = 0
      · rw [if_pos h0] at hw; cases hw
      · rw [if_neg h0] at hw
        by_cases h1 : l.all lenOk = true
        · rw [if_pos h1] at hw
          by_cases h2 : l.all holdT = true
          · rw [if_pos h2] at hw
            by_cases h3 : sorted (keysT l) = true
            · exact ⟨fun e => h0 (by rw [e]; rfl), fun x hx => List.all_eq_true.1 h1 x hx, fun x hx => List.all_eq_true.1 h2 x hx, h3, by omega⟩
            · rw [if_neg h3] at hw; cases hw
          · rw [if_neg h2] at hw; cases hw
        · rw [if_neg h1] at hw; cases hw
  · rw [if_neg hw] at h; exact absurd h hw
theorem keysT_length (l : List It) : (keysT l).length = l.length := by simp [keysT]
theorem keysT_append (a b : List It) : keysT (a ++ b) = keysT a ++ keysT b := by simp [keysT]
theorem keysT_get (l : List It) (i : Nat) (x : It) (h : l[i]? = some x) : (keysT l)[i]? = some x.k := by simp [keysT, h]
theorem preT_le (l : List It) (x : It) (h : x ∈ l) : x.k.take (preT l) = ((keysT l).headD []).take (preT l) ∧ preT l ≤ x.k.length :=
  pre_take (keysT l) x.k (List.mem_map_of_mem h)
theorem preT_head (l : List It) : (((keysT l).headD []).take (preT l)).length = preT l := by
  rw [List.length_take]
  cases l with
  | nil => rfl
  | cons x l => exact Nat.min_eq_left (pre_le_head (keysT (x :: l)) (by simp [keysT]))

/-! ### lengths -/
theorem clampT_le (s : Int) : clampT s ≤ 262144 := Nat.min_le_right _ _
theorem inT_le (n : Nat) : inT n ≤ 512 := by unfold inT; split <;> omega
theorem tagT_le (n : Nat) (h : n ≤ 262144) : tagT n ≤ 524289 := by unfold tagT; split <;> omega
theorem sumT_append (p : Nat) (a b : List It) : sumT p (a ++ b) = sumT p a + sumT p b := by
  induction a with
  | nil => simp [sumT]
  | cons s a ih => rw [List.cons_append, sumT, sumT, ih]; omega
theorem sumT_step (p : Nat) (l : List It) (i : Nat) (x : It) (h : l[i]? = some x) : sumT p (l.take (i + 1)) = sumT p (l.take i) + partT p x := by
  rw [List.take_add_one, h, sumT_append]; simp [sumT]
theorem partT_le (p K : Nat) (x : It) (h : x.k.length ≤ K) : partT p x ≤ K + 534 := by
  have h1 := vl_bounds (x.k.length - p)
  have h2 := vl_bounds (tagT (clampT x.s))
  have h3 := inT_le (clampT x.s)
  unfold partT
  omega
theorem sumT_le (p K : Nat) (l : List It) (h : ∀ x ∈ l, x.k.length ≤ K) : sumT p l ≤ l.length * (K + 534) := by
  induction l with
  | nil => simp [sumT]
  | cons x l ih =>
    have h1 := ih (fun y hy => h y (by simp [hy]))
    have h2 := partT_le p K x (h x (by simp))
    rw [sumT, List.length_cons, Nat.add_mul]
    omega
theorem sumT_take_le (p : Nat) (l : List It) (i : Nat) : sumT p (l.take i) ≤ sumT p l := by
  conv => rhs; rw [← List.take_append_drop i l, sumT_append]
  omega
theorem sumT_ge (p : Nat) (l : List It) : 4 * l.length ≤ sumT p l := by
  induction l with
  | nil => simp [sumT]
  | cons x l ih =>
    have h1 := vl_bounds (x.k.length - p)
    have h2 := vl_bounds (tagT (clampT x.s))
    rw [sumT, List.length_cons]
    unfold partT
    omega
theorem OkT.few {l : List It} (h : OkT l) : l.length ≤ 1022 := by
  have h1 := h.size
  have h2 := sumT_ge (preT l) l
  unfold sizeT at h1
  omega
theorem clampT_of {x : It} (h : lenOk x = true) : clampT x.s = x.s.toNat ∧ ((x.s.toNat : Nat) : Int) = x.s ∧ x.s.toNat ≤ 262144 := by
  have := of_decide_eq_true h
  unfold clampT
  omega
theorem restT_length {x : It} (h1 : lenOk x = true) (h2 : holdT x = true) : (restT x).length = vl (tagT (clampT x.s)) + inT (clampT x.s) := by
  obtain ⟨c1, c2, c3⟩ := clampT_of h1
  rw [c1]
  unfold holdT at h2
  unfold restT tagT inT
  by_cases hs : 512 < x.s
  · rw [if_pos hs, if_pos (show 512 < x.s.toNat by omega), if_pos (show 512 < x.s.toNat by omega), List.length_append, leB_length]
    rfl
  · rw [if_neg hs] at h2
    have := of_decide_eq_true h2
    rw [if_neg hs, if_neg (show ¬ 512 < x.s.toNat by omega), if_neg (show ¬ 512 < x.s.toNat by omega), List.length_append]
    show vl _ + _ = _
    omega
theorem cellT_length {x : It} (p : Nat) (h1 : lenOk x = true) (h2 : holdT x = true) : (cellT p x).length + 2 = partT p x := by
  unfold cellT partT
  rw [List.length_append, List.length_append, restT_length h1 h2, List.length_drop]
  show vl _ + _ + 2 = _
  omega
theorem ct_append (p : Nat) (a b : List It) : ct p (a ++ b) = ct p a ++ ct p b := by simp [ct]
theorem ct_cons (p : Nat) (x : It) (l : List It) : ct p (x :: l) = cellT p x ++ ct p l := by simp [ct]
theorem ct_succ (p : Nat) (l : List It) (i : Nat) (x : It) (h : l[i]? = some x) : ct p (l.take (i + 1)) = ct p (l.take i) ++ cellT p x := by
  rw [List.take_add_one, h, ct_append]; simp [ct]
theorem ct_length (p : Nat) (l : List It) (h1 : ∀ x ∈ l, lenOk x = true) (h2 : ∀ x ∈ l, holdT x = true) : (ct p l).length + 2 * l.length = sumT p l := by
  induction l with
  | nil => simp [ct, sumT]
  | cons x l ih =>
    have h3 := ih (fun y hy => h1 y (by simp [hy])) (fun y hy => h2 y (by simp [hy]))
    have h4 := cellT_length p (h1 x (by simp)) (h2 x (by simp))
    rw [ct_cons, List.length_append, sumT, List.length_cons]
    omega
theorem slT_succ (base p : Nat) (l : List It) (n : Nat) : slT base p l (n + 1) = slT base p l n ++ leB (base + (ct p (l.take n)).length) 2 := by simp [slT, List.range_succ]
theorem slT_length (base p : Nat) (l : List It) (n : Nat) : (slT base p l n).length = 2 * n := by
  induction n with
  | zero => rfl
  | succ n ih => rw [slT_succ, List.length_append, ih, leB_length]; omega
theorem headT_length (l : List It) : (headT l).length = 3 + vl (preT l) + preT l := by
  unfold headT vl
  simp only [List.length_append, List.length_cons, List.length_nil, leB_length, preT_head]
theorem usedT_length {l : List It} (h : OkT l) : (usedT l).length = sizeT l := by
  have := ct_length (preT l) l h.len h.hold
  unfold usedT sizeT
  simp only [List.length_append, headT_length, slT_length]
  omega
theorem bodyT_length {l : List It} (h : OkT l) : (bodyT l).length = 4092 := by
  unfold bodyT
  rw [List.length_append, usedT_length h, zer_length]
  have := h.size
  omega
/-- where the i-th cell lies, and that it fits. -/
theorem cellT_fit {l : List It} (h : OkT l) (i : Nat) (x : It) (hx : l[i]? = some x) : (headT l).length + 2 * l.length + (ct (preT l) (l.take i)).length + (cellT (preT l) x).length ≤ 4092 := by
  have h1 := usedT_length h
  have h2 := h.size
  have h3 := ct_succ (preT l) l i x hx
  have h4 : (ct (preT l) (l.take (i + 1))).length ≤ (ct (preT l) l).length := by
    have := congrArg List.length (ct_append (preT l) (l.take (i + 1)) (l.drop (i + 1)))
    rw [List.take_append_drop, List.length_append] at this
    omega
  rw [h3, List.length_append] at h4
  unfold usedT at h1
  simp only [List.length_append, slT_length] at h1
  omega

/-! ### what the code reads -/
def strT (B : List UInt8) (at_ : Nat) (e : Int) : List UInt8 × Nat × Int := bytesS B (vS B at_ e).2.1 (vS B at_ e).2.2 ((min (vS B at_ e).1 4092 : Nat) : Int)
def tailT (B k : List UInt8) (t at_ : Nat) (e : Int) : It × Nat × Int :=
  if 524289 < t then (⟨k, [], 0, 0⟩, (bytesS B at_ e (-1)).2)
  else if t % 2 = 1 then (⟨k, [], ((t / 2 : Nat) : Int), ((numS B at_ e 4).1 : Nat)⟩, (numS B at_ e 4).2)
  else (⟨k, (bytesS B at_ e ((t / 2 : Nat) : Int)).1, ((t / 2 : Nat) : Int), 0⟩, (bytesS B at_ e ((t / 2 : Nat) : Int)).2)
def itemT (B pre : List UInt8) (at_ : Nat) (e : Int) : It × Nat × Int :=
  tailT B (pre ++ (strT B at_ e).1) (vS B (strT B at_ e).2.1 (strT B at_ e).2.2).1 (vS B (strT B at_ e).2.1 (strT B at_ e).2.2).2.1 (vS B (strT B at_ e).2.1 (strT B at_ e).2.2).2.2
def itemsT (B pre : List UInt8) : Nat → Nat → Int → Option (List It)
  | 0, _, _ => some []
  | n + 1, at_, e => if (itemT B pre at_ e).2.2 = 0 then (itemsT B pre n (itemT B pre at_ e).2.1 (itemT B pre at_ e).2.2).map ((itemT B pre at_ e).1 :: ·) else none
def cntT (B : List UInt8) : Nat × Nat × Int := numS B (bytesS B 0 0 1).2.1 (bytesS B 0 0 1).2.2 2
def pfxT (B : List UInt8) : List UInt8 × Nat × Int := strT B (cntT B).2.1 (cntT B).2.2
def skipT (B : List UInt8) : List UInt8 × Nat × Int := bytesS B (pfxT B).2.1 (pfxT B).2.2 ((2 * (cntT B).1 : Nat) : Int)
def readT (B : List UInt8) : Option (List It) := itemsT B (pfxT B).1 (cntT B).1 (skipT B).2.1 (skipT B).2.2
/-- what Decode answers. -/
def chkT (B : List UInt8) : Option (List It) → Option (List It)
  | none => none
  | some l => if errT l = 0 ∧ bodyT l = B then some l else none
def decT (B : List UInt8) : Option (List It) := if B.length = 4092 then chkT B (readT B) else none

theorem dropT_le {B x r : List UInt8} {at_ : Nat} (h : B.drop at_ = x ++ r) (hb : at_ ≤ B.length) : at_ + x.length ≤ B.length := by
  have := congrArg List.length h
  rw [List.length_drop, List.length_append] at this
  omega
theorem strT_front (B : List UInt8) (at_ d : Nat) (x r : List UInt8) (h : B.drop at_ = vF 9 d ++ (x ++ r)) (hb : at_ ≤ B.length) (hx : x.length = d) (hd : d ≤ 4092) : strT B at_ 0 = (x, at_ + vl d + d, 0) := by
  have e1 := vS_front B at_ d _ h (by omega)
  have hl := dropT_le h hb
  have hm := drop_more h
  have hl2 := dropT_le hm hl
  rw [hx] at hl2
  unfold strT
  rw [e1]
  simp only
  rw [Nat.min_eq_left hd]
  exact bytesS_front B _ d x r hm hx hl2
theorem itemT_front (B pre : List UInt8) (p at_ : Nat) (x : It) (r : List UInt8) (h : B.drop at_ = cellT p x ++ r) (hb : at_ ≤ B.length) (hp : x.k.take p = pre) (hk : x.k.length - p ≤ 4092) (h1 : lenOk x = true) (h2 : holdT x = true) :
    itemT B pre at_ 0 = (x, at_ + (cellT p x).length, 0) := by
  obtain ⟨c1, c2, c3⟩ := clampT_of h1
  have hlen : (cellT p x).length = vl (x.k.length - p) + (x.k.length - p) + (restT x).length := by
    unfold cellT
    rw [List.length_append, List.length_append, List.length_drop]
    show vl _ + _ = _
    omega
  rw [hlen]
  unfold cellT at h
  rw [List.append_assoc, List.append_assoc] at h
  have e1 := strT_front B at_ (x.k.length - p) (x.k.drop p) _ h hb (by rw [List.length_drop]) hk
  have l1 := dropT_le h hb
  have d1 := drop_more h
  have l2 := dropT_le d1 l1
  have d2 := drop_more d1
  rw [List.length_drop, show (vF 9 (x.k.length - p)).length = vl (x.k.length - p) from rfl] at l2 d2
  have hkey : pre ++ x.k.drop p = x.k := by rw [← hp, List.take_append_drop]
  unfold itemT
  rw [e1]
  simp only
  rw [hkey]
  obtain ⟨at2, hat⟩ : ∃ a, at_ + vl (x.k.length - p) + (x.k.length - p) = a := ⟨_, rfl⟩
  rw [hat] at d2 l2 ⊢
  have hat' : at_ + (vl (x.k.length - p) + (x.k.length - p) + (restT x).length) = at2 + (restT x).length := by omega
  rw [hat']
  unfold holdT at h2
  unfold restT at d2 ⊢
  by_cases hs : 512 < x.s
  · rw [if_pos hs] at h2 d2 ⊢
    have q := of_decide_eq_true h2
    rw [List.append_assoc] at d2
    have e2 := vS_front B at2 (2 * x.s.toNat + 1) _ d2 (by omega)
    have l3 := dropT_le d2 l2
    have d3 := drop_more d2
    have hf4 : x.f.toNat < 256 ^ 4 := Nat.lt_of_le_of_lt (m := 524287) (by omega) (by decide)
    have l4 := dropT_le d3 l3
    rw [leB_length] at l4
    have e3 := numS_front B _ 4 x.f.toNat _ d3 hf4 l4
    rw [show (vF 9 (2 * x.s.toNat + 1)).length = vl (2 * x.s.toNat + 1) from rfl] at e3
    rw [e2]
    simp only
    unfold tailT
    rw [if_neg (by omega), if_pos (by omega), e3]
    have hv : x.v = [] := List.eq_nil_of_length_eq_zero q.1
    have e4 : (2 * x.s.toNat + 1) / 2 = x.s.toNat := by omega
    rw [e4, List.length_append, leB_length]
    simp only [Prod.mk.injEq, and_true]
    refine ⟨?_, by show _ = at2 + (vl _ + 4); omega⟩
    cases x with
    | mk k v s f =>
      simp only at hv c2 q ⊢
      subst hv
      rw [c2]
      congr 1
      omega
  · rw [if_neg hs] at h2 d2 ⊢
    have q := of_decide_eq_true h2
    rw [List.append_assoc] at d2
    have e2 := vS_front B at2 (2 * x.s.toNat) _ d2 (by omega)
    have l3 := dropT_le d2 l2
    have d3 := drop_more d2
    have l4 := dropT_le d3 l3
    have e3 := bytesS_front B _ x.s.toNat x.v r d3 (by omega) (by omega)
    rw [show (vF 9 (2 * x.s.toNat)).length = vl (2 * x.s.toNat) from rfl] at e3
    rw [e2]
    simp only
    unfold tailT
    have e4 : 2 * x.s.toNat / 2 = x.s.toNat := by omega
    rw [if_neg (by omega), if_neg (by omega), e4, e3, List.length_append]
    simp only [Prod.mk.injEq, and_true]
    refine ⟨?_, by show _ = at2 + (vl _ + _); omega⟩
    cases x with
    | mk k v s f =>
      simp only at c2 q ⊢
      rw [c2, q.2]
theorem itemsT_front (B pre : List UInt8) (p : Nat) (l : List It) (at_ : Nat) (r : List UInt8) (h : B.drop at_ = ct p l ++ r) (hb : at_ ≤ B.length)
    (hz : ∀ x ∈ l, x.k.take p = pre ∧ x.k.length - p ≤ 4092 ∧ lenOk x = true ∧ holdT x = true) : itemsT B pre l.length at_ 0 = some l := by
  induction l generalizing at_ with
  | nil => rfl
  | cons x l ih =>
    obtain ⟨h1, h2, h3, h4⟩ := hz x (by simp)
    rw [ct_cons, List.append_assoc] at h
    have e1 := itemT_front B pre p at_ x _ h hb h1 h2 h3 h4
    have l1 := dropT_le h hb
    have d1 := drop_more h
    rw [List.length_cons, itemsT, e1]
    simp only [if_true]
    rw [ih _ d1 l1 (fun y hy => hz y (by simp [hy]))]
    rfl
theorem readT_body {l : List It} (h : OkT l) : readT (bodyT l) = some l := by
  have hB := bodyT_length h
  have hf := h.few
  obtain ⟨B, eB⟩ : ∃ B, bodyT l = B := ⟨_, rfl⟩
  rw [eB] at hB ⊢
  have hle : preT l ≤ 4092 := by
    have := h.size
    unfold sizeT at this
    omega
  have hpl := preT_head l
  have d0 : B.drop 0 = [1] ++ (leB l.length 2 ++ (vF 9 (preT l) ++ (((keysT l).headD []).take (preT l) ++ (slT ((headT l).length + 2 * l.length) (preT l) l l.length ++ (ct (preT l) l ++ zer (4092 - sizeT l)))))) := by
    rw [List.drop_zero, ← eB]
    unfold bodyT usedT
    simp only [headT, List.append_assoc]
  have q1 := bytesS_front B 0 1 [1] _ d0 rfl (by omega)
  have d1 := drop_more d0
  rw [show ([1] : List UInt8).length = 1 from rfl] at d1
  have q2 := numS_front B (0 + 1) 2 l.length _ d1 (Nat.lt_of_le_of_lt (m := 1022) hf (by decide)) (by omega)
  have d2 := drop_more d1
  rw [leB_length] at d2
  have q3 := strT_front B (0 + 1 + 2) (preT l) _ _ d2 (by omega) hpl hle
  have l2 := dropT_le d2 (by omega)
  have d3 := drop_more d2
  have l3 := dropT_le d3 l2
  have d4 := drop_more d3
  rw [hpl, show (vF 9 (preT l)).length = vl (preT l) from rfl] at l3 d4
  have hsl := slT_length ((headT l).length + 2 * l.length) (preT l) l l.length
  have l4 := dropT_le d4 l3
  rw [hsl] at l4
  have q4 := bytesS_front B _ (2 * l.length) _ _ d4 hsl l4
  have d5 := drop_more d4
  rw [hsl] at d5
  have q5 := itemsT_front B (((keysT l).headD []).take (preT l)) (preT l) l _ _ d5 l4 (fun x hx => by
    have := of_decide_eq_true (h.len x hx)
    exact ⟨(preT_le l x hx).1, by omega, h.len x hx, h.hold x hx⟩)
  have hc : cntT B = (l.length, 0 + 1 + 2, 0) := by
    unfold cntT
    rw [show bytesS B 0 0 1 = ([1], 0 + 1, 0) from q1]; exact q2
  have hp : pfxT B = (((keysT l).headD []).take (preT l), 0 + 1 + 2 + vl (preT l) + preT l, 0) := by unfold pfxT; rw [hc]; exact q3
  have hs : skipT B = (slT ((headT l).length + 2 * l.length) (preT l) l l.length, 0 + 1 + 2 + vl (preT l) + preT l + 2 * l.length, 0) := by
    unfold skipT; rw [hp, hc]; exact q4
  unfold readT
  rw [hp, hc, hs]
  exact q5
theorem decT_some {B : List UInt8} {l : List It} (h : decT B = some l) : errT l = 0 ∧ bodyT l = B ∧ OkT l ∧ B.length = 4092 := by
  unfold decT at h
  by_cases hl : B.length = 4092
  · rw [if_pos hl] at h
    rcases hr : readT B with _ | m
    · rw [hr] at h; cases h
    · rw [hr] at h
      unfold chkT at h
      by_cases q : errT m = 0 ∧ bodyT m = B
      · simp only [if_pos q] at h
        cases h
        exact ⟨q.1, q.2, okT_of q.1, hl⟩
      · simp only [if_neg q] at h
        cases h
  · rw [if_neg hl] at h; cases h
theorem decT_body {l : List It} (h : errT l = 0) : decT (bodyT l) = some l := by
  have hO := okT_of h
  unfold decT
  rw [if_pos (bodyT_length hO), readT_body hO]
  unfold chkT
  simp [h]
theorem bodyT_inj {l m : List It} (h : errT l = 0) (h' : errT m = 0) (e : bodyT l = bodyT m) : l = m := by
  have h1 := decT_body h
  rw [e, decT_body h'] at h1
  exact (Option.some.inj h1).symm
end Go.Proofs.YtmeakhiiebeneaaGreatDoor
namespace Go.Proofs.YtmeakhiiebeneaaGreatDoor
open Go.RowKit

/-- A slice of items that reads as l: four cells each. -/
structure RT (w : World) (A : Option Addr) (n c : Nat) (vs : List Value) (l : List It) : Prop where
  rc : RC w 4 A n c vs
  len : l.length = n
  each : ∀ (j : Nat) (x : It), l[j]? = some x → ∃ (p q : Option Addr × Nat × Nat), vs[j * 4]? = some (sv p) ∧ vs[j * 4 + 1]? = some (sv q) ∧ vs[j * 4 + 2]? = some (.int .i64 x.s) ∧ vs[j * 4 + 3]? = some (.int .i64 x.f) ∧ RB w p.1 p.2.1 p.2.2 x.k ∧ RB w q.1 q.2.1 q.2.2 x.v
theorem RT.below {w w' : World} {A : Option Addr} {n c : Nat} {vs : List Value} {l : List It} (h : RT w A n c vs l) (hb : Below w.heap.size w w') : RT w' A n c vs l :=
  ⟨h.rc.below hb, h.len, fun j x hj => by obtain ⟨p, q, e1, e2, e3, e4, r1, r2⟩ := h.each j x hj; exact ⟨p, q, e1, e2, e3, e4, r1.below hb, r2.below hb⟩⟩
theorem RT.max {w : World} {A : Option Addr} {n c : Nat} {vs : List Value} {l : List It} (h : RT w A n c vs l) : n ≤ 9223372036854775807 := by
  have h1 := RC.le h.rc; have h2 := RC.mx h.rc; rw [maxLen_is] at h2; omega
theorem add_more (ad : Addr) (j k : Nat) : ad.add (j * 4 + (k + 1)) = ⟨(ad.add (j * 4)).block, (ad.add (j * 4)).off + (k + 1), none⟩ := by
  rw [← Addr.add_add, Addr.add_succ']
/-- The four cells of an item at an address. -/
structure ItAt (w : World) (a : Addr) (p q : Option Addr × Nat × Nat) (s f : Int) : Prop where
  c0 : w.cell? a = some (.slice p.1 p.2.1 p.2.2)
  c1 : w.cell? ⟨a.block, a.off + 1, none⟩ = some (.slice q.1 q.2.1 q.2.2)
  c2 : w.cell? ⟨a.block, a.off + 2, none⟩ = some (.int .i64 s)
  c3 : w.cell? ⟨a.block, a.off + 3, none⟩ = some (.int .i64 f)
theorem RT.row {w : World} {A : Option Addr} {n c : Nat} {vs : List Value} {l : List It} (h : RT w A n c vs l) (j : Nat) (hj : j < n) :
    ∃ (ad : Addr) (p q : Option Addr × Nat × Nat) (x : It), A = some ad ∧ l[j]? = some x ∧ ItAt w (ad.add (j * 4)) p q x.s x.f ∧ RB w p.1 p.2.1 p.2.2 x.k ∧ RB w q.1 q.2.1 q.2.2 x.v := by
  obtain ⟨x, hx⟩ : ∃ x, l[j]? = some x := ⟨_, List.getElem?_eq_getElem (by rw [h.len]; exact hj)⟩
  obtain ⟨p, q, e0, e1, e2, e3, r1, r2⟩ := h.each j x hx
  obtain ⟨ad, e, hc⟩ := RC.drop0 h.rc (by omega)
  refine ⟨ad, p, q, x, e, hx, ⟨hc _ _ e0, ?_, ?_, ?_⟩, r1, r2⟩
  · rw [← add_more]; exact hc _ _ e1
  · rw [← add_more]; exact hc _ _ e2
  · rw [← add_more]; exact hc _ _ e3

/-! ### items of the call's own -/
structure Cel where
  p : Option Addr × Nat × Nat
  q : Option Addr × Nat × Nat
  x : It
def itv (z : Cel) : List Value := [sv z.p, sv z.q, .int .i64 z.x.s, .int .i64 z.x.f]
def itvs : List Cel → List Value
  | [] => []
  | z :: l => sv z.p :: sv z.q :: .int .i64 z.x.s :: .int .i64 z.x.f :: itvs l
theorem itvs_length (l : List Cel) : (itvs l).length = l.length * 4 := by
  induction l with
  | nil => rfl
  | cons z l ih => simp only [itvs, List.length_cons, ih]; omega
theorem itvs_append (a b : List Cel) : itvs (a ++ b) = itvs a ++ itvs b := by
  induction a with
  | nil => rfl
  | cons z a ih => rw [List.cons_append, itvs, itvs, ih]; rfl
theorem itvs_one' (z : Cel) : itvs [z] = itv z := rfl
theorem itvs_get (l : List Cel) (j : Nat) (z : Cel) (h : l[j]? = some z) : (itvs l)[j * 4]? = some (sv z.p) ∧ (itvs l)[j * 4 + 1]? = some (sv z.q) ∧ (itvs l)[j * 4 + 2]? = some (.int .i64 z.x.s) ∧ (itvs l)[j * 4 + 3]? = some (.int .i64 z.x.f) := by
  induction l generalizing j with
  | nil => simp at h
  | cons y l ih =>
    cases j with
    | zero =>
      simp at h; subst h
      exact ⟨rfl, rfl, rfl, rfl⟩
    | succ j =>
      have := ih j (by simpa using h)
      rw [show (j + 1) * 4 = j * 4 + 1 + 1 + 1 + 1 by omega]
      exact this
theorem itvs_one (l : List Cel) : ∀ u ∈ itvs l, u.oneCell' = true := by
  induction l with
  | nil => intro u hu; cases hu
  | cons z l ih =>
    intro u hu
    rw [itvs] at hu
    simp only [List.mem_cons] at hu
    rcases hu with rfl | rfl | rfl | rfl | hu
    · rfl
    · rfl
    · rfl
    · rfl
    · exact ih u hu
/-- the slices of a cell. -/
def slots (l : List Cel) : List (Option Addr × Nat × Nat) := l.flatMap fun z => [z.p, z.q]
theorem slots_append (a b : List Cel) : slots (a ++ b) = slots a ++ slots b := by simp [slots]
theorem slots_mem {l : List Cel} {z : Cel} (h : z ∈ l) : z.p ∈ slots l ∧ z.q ∈ slots l := by
  unfold slots
  exact ⟨List.mem_flatMap.2 ⟨z, h, by simp⟩, List.mem_flatMap.2 ⟨z, h, by simp⟩⟩
theorem slots_of {l : List Cel} {s : Option Addr × Nat × Nat} (h : s ∈ slots l) : ∃ z ∈ l, s = z.p ∨ s = z.q := by
  unfold slots at h
  obtain ⟨z, hz, hs⟩ := List.mem_flatMap.1 h
  exact ⟨z, hz, by simpa using hs⟩
def its (l : List Cel) : List It := l.map Cel.x
theorem its_append (a b : List Cel) : its (a ++ b) = its a ++ its b := by simp [its]
theorem its_length (a : List Cel) : (its a).length = a.length := by simp [its]
/-- A row of items; the row and all lists in it lie in blocks of the call's own, no two lists in the same. -/
structure OT (w : World) (base : Nat) (A : Option Addr) (n c : Nat) (zs : List Cel) : Prop where
  row : GC w base 133 4 A n c (itvs zs)
  each : ∀ z ∈ zs, GB w base z.p.1 z.p.2.1 z.p.2.2 z.x.k ∧ GB w base z.q.1 z.q.2.1 z.q.2.2 z.x.v
  inc : (slots zs).Pairwise Before
theorem OT.nil (w : World) (base : Nat) : OT w base none 0 0 [] := ⟨GC.nil _ _ _ _, (fun z h => by cases h), List.Pairwise.nil⟩
theorem OT.below {w w' : World} {base n c : Nat} {A : Option Addr} {zs : List Cel} (h : OT w base A n c zs) (hb : Below w.heap.size w w') : OT w' base A n c zs :=
  ⟨h.row.below hb, fun z hz => ⟨(h.each z hz).1.below hb, (h.each z hz).2.below hb⟩, h.inc⟩
theorem OT.lower {w : World} {base base' n c : Nat} {A : Option Addr} {zs : List Cel} (h : OT w base A n c zs) (hb : base' ≤ base) : OT w base' A n c zs :=
  ⟨GC.lower h.row hb, fun z hz => ⟨GC.lower (h.each z hz).1 hb, GC.lower (h.each z hz).2 hb⟩, h.inc⟩
theorem OT.n {w : World} {base n c : Nat} {A : Option Addr} {zs : List Cel} (h : OT w base A n c zs) : zs.length = n := by
  have := h.row.1; rw [itvs_length] at this; omega
theorem OT.read {w : World} {base n c : Nat} {A : Option Addr} {zs : List Cel} (h : OT w base A n c zs) : RT w A n c (itvs zs) (its zs) :=
  ⟨GC.read h.row, by rw [its_length, h.n], fun j x hj => by
    obtain ⟨z, hz, rfl⟩ : ∃ z, zs[j]? = some z ∧ z.x = x := by
      unfold its at hj
      rw [List.getElem?_map] at hj
      rcases hz : zs[j]? with _ | z
      · rw [hz] at hj; cases hj
      · rw [hz] at hj; cases hj; exact ⟨z, rfl, rfl⟩
    obtain ⟨e1, e2, e3, e4⟩ := itvs_get zs j z hz
    have hm := h.each z (List.mem_of_getElem? hz)
    exact ⟨z.p, z.q, e1, e2, e3, e4, hm.1.read, hm.2.read⟩⟩
theorem OT.lt {w : World} {base n c : Nat} {A : Option Addr} {zs : List Cel} (h : OT w base A n c zs) : ∀ s ∈ slots zs, ∀ a, s.1 = some a → a.block < w.heap.size ∧ base ≤ a.block := by
  intro s hs a e
  obtain ⟨z, hz, q⟩ := slots_of hs
  rcases q with rfl | rfl
  · exact (h.each z hz).1.lt a e
  · exact (h.each z hz).2.lt a e
/-- An item more. -/
theorem OT.push {w w' : World} {base n c lo g c2 : Nat} {A : Option Addr} {zs : List Cel} {z : Cel} (h : OT w base A n c zs) (hp : GB w lo z.p.1 z.p.2.1 z.p.2.2 z.x.k) (hq : GB w lo z.q.1 z.q.2.1 z.q.2.2 z.x.v)
    (hpq : Before z.p z.q) (hlo : ∀ s ∈ slots zs, ∀ a, s.1 = some a → a.block < lo) (hb : base ≤ lo) (gx : w.grownBy w' (A.map (·.block))) (o : OC w' 133 4 g (n + 1) c2 (itvs zs ++ itv z)) (hg : base ≤ g) :
    OT w' base (some ⟨g, 0, none⟩) (n + 1) c2 (zs ++ [z]) := by
  refine ⟨by rw [itvs_append, itvs_one']; exact GC.of o hg, ?_, ?_⟩
  · intro y hy
    rcases List.mem_append.1 hy with hy | hy
    · exact ⟨GC.apart (h.each y hy).1 h.row gx (by decide), GC.apart (h.each y hy).2 h.row gx (by decide)⟩
    · rw [List.mem_singleton] at hy
      subst hy
      exact ⟨GC.apart (GC.lower hp hb) h.row gx (by decide), GC.apart (GC.lower hq hb) h.row gx (by decide)⟩
  · rw [slots_append, List.pairwise_append]
    refine ⟨h.inc, ?_, ?_⟩
    · show [z.p, z.q].Pairwise Before
      simp only [List.pairwise_cons, List.mem_singleton, forall_eq, List.not_mem_nil, false_implies, implies_true, List.Pairwise.nil, and_true]
      exact hpq
    · intro s hs t ht a b ea eb
      have h1 := hlo s hs a ea
      have ht : t = z.p ∨ t = z.q := by simpa [slots] using ht
      rcases ht with rfl | rfl
      · have := (hp.lt b eb).2
        omega
      · have := (hq.lt b eb).2
        omega
theorem info_item : (Tryz.prog.info? 133).map (fun i => (i.zero, i.size, i.bytes)) = some (some (.agg #[.slice none 0 0, .slice none 0 0, .int .i64 0, .int .i64 0]), 4, 64) := by kernel_rfl
/-- append of one item. -/
theorem wpT_app {w : World} {ops : Array Oper} {rest : List Oper} {o : Oper} {a : Act} {Q : Exit → Act → World → Prop} (hgd : o.guard = none) (s x : Operand) (ho : o.op = .call { callee := .builtin .append, args := #[s, x], argTypes := #[89, 89] })
    (base : Nat) (A : Option Addr) (n c : Nat) (zs : List Cel) (hs : a.eval s = .slice A n c) (hown : GC w base 133 4 A n c (itvs zs))
    (ad : Addr) (z : Cel) (hx : a.eval x = .slice (some ad) 1 1) (hr : RC w 4 (some ad) 1 1 (itv z)) (hb : n + 1 ≤ 1000000) (hbase : base ≤ w.heap.size)
    (h : ∀ g' c' w', base ≤ g' → OC w' 133 4 g' (n + 1) c' (itvs zs ++ itv z) → w.grownBy w' (A.map (·.block)) → wpList Tryz.prog ops Q rest (a.put o.dst (.slice (some ⟨g', 0, none⟩) (n + 1) c')) w') :
    wpList Tryz.prog ops Q (o :: rest) a w := by
  obtain ⟨i0, hi, hz0, hz1, hz2⟩ := info_parts info_item
  exact wpG_app hgd s x 89 ho base 133 i0 _ 4 64 Tryz.underlying89 hi hz0 hz1 hz2 rfl (by decide) A n c (itvs zs) hs hown ad 1 1 (itv z) hx hr (itvs_one [z]) (by decide) (by omega) (by rw [maxLen_is]; omega) hbase h
/-- A new block of one item. -/
theorem it_cell (w : World) (z : Cel) : OC (w.alloc (.cells #[.slice z.p.1 z.p.2.1 z.p.2.2, .slice z.q.1 z.q.2.1 z.q.2.2, .int .i64 z.x.s, .int .i64 z.x.f] 133)) 133 4 w.heap.size 1 1 (itv z) :=
  OC.mk rfl _ (heap_alloc_new w _) (Nat.le_refl _) (by rw [maxLen_is]; omega) rfl rfl
theorem ItAt.new (w : World) (t : TypeId) (p q : Option Addr × Nat × Nat) (s f : Int) : ItAt (w.alloc (.cells #[.slice p.1 p.2.1 p.2.2, .slice q.1 q.2.1 q.2.2, .int .i64 s, .int .i64 f] t)) ⟨w.heap.size, 0, none⟩ p q s f := ⟨by simp, by simp, by simp, by simp⟩
theorem ItAt.below {w w' : World} {a : Addr} {p q : Option Addr × Nat × Nat} {s f : Int} (h : ItAt w a p q s f) (b : Below w.heap.size w w') : ItAt w' a p q s f :=
  ⟨(b.cell (World.block_lt_of_cell? w _ h.c0)).trans h.c0, (b.cell (World.block_lt_of_cell? w _ h.c1)).trans h.c1, (b.cell (World.block_lt_of_cell? w _ h.c2)).trans h.c2, (b.cell (World.block_lt_of_cell? w _ h.c3)).trans h.c3⟩
end Go.Proofs.YtmeakhiiebeneaaGreatDoor
