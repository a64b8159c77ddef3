/- Plain laws of chapter 4: a leaf's size and body, and what is read back. No program in sight. -/
import Derived.Test.YtieoleiokjoccaaPa
namespace Go.Proofs.Ytieoleiokjoccaa

structure It where
  k : List UInt8
  v : List UInt8
  s : Int
  f : Int
def keysT (l : List It) : List (List UInt8) := l.map It.k
def preT (l : List It) : Nat := Key.comAll (keysT l)
def clampT (s : Int) : Nat := min s.toNat 262144
def tagT (n : Nat) : Nat := if 512 < n then 2 * n + 1 else 2 * n
def inT (n : Nat) : Nat := if 512 < n then 4 else n
def partT (p : Nat) (x : It) : Nat := 2 + vl (x.k.length - p) + (x.k.length - p) + vl (tagT (clampT x.s)) + inT (clampT x.s)
def sumT (p : Nat) : List It → Nat
  | [] => 0
  | x :: l => partT p x + sumT p l
def sizeT (l : List It) : Nat := 3 + vl (preT l) + preT l + sumT (preT l) l
def lenOk (x : It) : Bool := decide (1 ≤ x.k.length ∧ x.k.length ≤ 255 ∧ 0 ≤ x.s ∧ x.s ≤ 262144)
def holdT (x : It) : Bool := if 512 < x.s then decide (x.v.length = 0 ∧ 2 ≤ x.f ∧ x.f < 524287) else decide ((x.v.length : Int) = x.s ∧ x.f = 0)
def wrongT (l : List It) : Int :=
  if l.length = 0 then 40 else if l.all lenOk then if l.all holdT then if sorted (keysT l) then 0 else 30 else 40 else 41
def errT (l : List It) : Int := if wrongT l = 0 then if 4092 < sizeT l then 42 else 0 else wrongT l
def restT (x : It) : List UInt8 := if 512 < x.s then vF 9 (2 * x.s.toNat + 1) ++ leB x.f.toNat 4 else vF 9 (2 * x.s.toNat) ++ x.v
def cellT (p : Nat) (x : It) : List UInt8 := vF 9 (x.k.length - p) ++ (x.k.drop p ++ restT x)
def ct (p : Nat) (l : List It) : List UInt8 := l.flatMap (cellT p)
def slT (base p : Nat) (l : List It) (n : Nat) : List UInt8 := (List.range n).flatMap fun j => leB (base + (ct p (l.take j)).length) 2
def headT (l : List It) : List UInt8 := [1] ++ leB l.length 2 ++ vF 9 (preT l) ++ ((keysT l).headD []).take (preT l)
def usedT (l : List It) : List UInt8 := headT l ++ slT ((headT l).length + 2 * l.length) (preT l) l l.length ++ ct (preT l) l
def bodyT (l : List It) : List UInt8 := usedT l ++ zer (4092 - sizeT l)
def encT (l : List It) : List UInt8 × Int := if errT l = 0 then (bodyT l, 0) else ([], errT l)
structure OkT (l : List It) : Prop where
  n : l ≠ []
  len : ∀ x ∈ l, lenOk x = true
  hold : ∀ x ∈ l, holdT x = true
  sort : sorted (keysT l) = true
  size : sizeT l ≤ 4092
theorem okT_of {l : List It} (h : errT l = 0) : OkT l := by
  unfold errT at h
  by_cases hw : wrongT l = 0
  · rw [if_pos hw] at h
    by_cases hs : 4092 < sizeT l
    · rw [if_pos hs] at h; cases h
    · unfold wrongT at hw
      by_cases h0 : l.length = 0
      · rw [if_pos h0] at hw; cases hw
      · rw [if_neg h0] at hw
        by_cases h1 : l.all lenOk = true
        · rw [if_pos h1] at hw
          by_cases h2 : l.all holdT = true
          · rw [if_pos h2] at hw
            by_cases h3 : sorted (keysT l) = true
            · exact ⟨fun e => h0 (by rw [e]; rfl), fun x hx => List.all_eq_true.1 h1 x hx, fun x hx => List.all_eq_true.1 h2 x hx, h3, by omega⟩
            · rw [if_neg h3] at hw; cases hw
          · rw [if_neg h2] at hw; cases hw
        · rw [if_neg h1] at hw; cases hw
  · rw [if_neg hw] at h; exact absurd h hw
theorem keysT_length (l : List It) : (keysT l).length = l.length := by simp [keysT]
theorem keysT_append (a b : List It) : keysT (a ++ b) = keysT a ++ keysT b := by simp [keysT]
theorem keysT_get (l : List It) (i : Nat) (x : It) (h : l[i]? = some x) : (keysT l)[i]? = some x.k := by simp [keysT, h]
theorem preT_le (l : List It) (x : It) (h : x ∈ l) : x.k.take (preT l) = ((keysT l).headD []).take (preT l) ∧ preT l ≤ x.k.length :=
  pre_take (keysT l) x.k (List.mem_map_of_mem h)
theorem preT_head (l : List It) : (((keysT l).headD []).take (preT l)).length = preT l := by
  rw [List.length_take]
  cases l with
  | nil => rfl
  | cons x l => exact Nat.min_eq_left (pre_le_head (keysT (x :: l)) (by simp [keysT]))

/-! ### lengths -/
theorem clampT_le (s : Int) : clampT s ≤ 262144 := Nat.min_le_right _ _
theorem inT_le (n : Nat) : inT n ≤ 512 := by unfold inT; split <;> omega
theorem tagT_le (n : Nat) (h : n ≤ 262144) : tagT n ≤ 524289 := by unfold tagT; split <;> omega
theorem sumT_append (p : Nat) (a b : List It) : sumT p (a ++ b) = sumT p a + sumT p b := by
  induction a with
  | nil => simp [sumT]
  | cons s a ih => rw [List.cons_append, sumT, sumT, ih]; omega
theorem sumT_step (p : Nat) (l : List It) (i : Nat) (x : It) (h : l[i]? = some x) : sumT p (l.take (i + 1)) = sumT p (l.take i) + partT p x := by
  rw [List.take_add_one, h, sumT_append]; simp [sumT]
theorem partT_le (p K : Nat) (x : It) (h : x.k.length ≤ K) : partT p x ≤ K + 534 := by
  have h1 := vl_bounds (x.k.length - p)
  have h2 := vl_bounds (tagT (clampT x.s))
  have h3 := inT_le (clampT x.s)
  unfold partT
  omega
theorem sumT_le (p K : Nat) (l : List It) (h : ∀ x ∈ l, x.k.length ≤ K) : sumT p l ≤ l.length * (K + 534) := by
  induction l with
  | nil => simp [sumT]
  | cons x l ih =>
    have h1 := ih (fun y hy => h y (by simp [hy]))
    have h2 := partT_le p K x (h x (by simp))
    rw [sumT, List.length_cons, Nat.add_mul]
    omega
theorem sumT_take_le (p : Nat) (l : List It) (i : Nat) : sumT p (l.take i) ≤ sumT p l := by
  conv => rhs; rw [← List.take_append_drop i l, sumT_append]
  omega
theorem sumT_ge (p : Nat) (l : List It) : 4 * l.length ≤ sumT p l := by
  induction l with
  | nil => simp [sumT]
  | cons x l ih =>
    have h1 := vl_bounds (x.k.length - p)
    have h2 := vl_bounds (tagT (clampT x.s))
    rw [sumT, List.length_cons]
    unfold partT
    omega
theorem OkT.few {l : List It} (h : OkT l) : l.length ≤ 1022 := by
  have h1 := h.size
  have h2 := sumT_ge (preT l) l
  unfold sizeT at h1
  omega
theorem clampT_of {x : It} (h : lenOk x = true) : clampT x.s = x.s.toNat ∧ ((x.s.toNat : Nat) : Int) = x.s ∧ x.s.toNat ≤ 262144 := by
  have := of_decide_eq_true h
  unfold clampT
  omega
theorem restT_length {x : It} (h1 : lenOk x = true) (h2 : holdT x = true) : (restT x).length = vl (tagT (clampT x.s)) + inT (clampT x.s) := by
  obtain ⟨c1, c2, c3⟩ := clampT_of h1
  rw [c1]
  unfold holdT at h2
  unfold restT tagT inT
  by_cases hs : 512 < x.s
  · rw [if_pos hs, if_pos (show 512 < x.s.toNat by omega), if_pos (show 512 < x.s.toNat by omega), List.length_append, leB_length]
    rfl
  · rw [if_neg hs] at h2
    have := of_decide_eq_true h2
    rw [if_neg hs, if_neg (show ¬ 512 < x.s.toNat by omega), if_neg (show ¬ 512 < x.s.toNat by omega), List.length_append]
    show vl _ + _ = _
    omega
theorem cellT_length {x : It} (p : Nat) (h1 : lenOk x = true) (h2 : holdT x = true) : (cellT p x).length + 2 = partT p x := by
  unfold cellT partT
  rw [List.length_append, List.length_append, restT_length h1 h2, List.length_drop]
  show vl _ + _ + 2 = _
  omega
theorem ct_append (p : Nat) (a b : List It) : ct p (a ++ b) = ct p a ++ ct p b := by simp [ct]
theorem ct_cons (p : Nat) (x : It) (l : List It) : ct p (x :: l) = cellT p x ++ ct p l := by simp [ct]
theorem ct_succ (p : Nat) (l : List It) (i : Nat) (x : It) (h : l[i]? = some x) : ct p (l.take (i + 1)) = ct p (l.take i) ++ cellT p x := by
  rw [List.take_add_one, h, ct_append]; simp [ct]
theorem ct_length (p : Nat) (l : List It) (h1 : ∀ x ∈ l, lenOk x = true) (h2 : ∀ x ∈ l, holdT x = true) : (ct p l).length + 2 * l.length = sumT p l := by
  induction l with
  | nil => simp [ct, sumT]
  | cons x l ih =>
    have h3 := ih (fun y hy => h1 y (by simp [hy])) (fun y hy => h2 y (by simp [hy]))
    have h4 := cellT_length p (h1 x (by simp)) (h2 x (by simp))
    rw [ct_cons, List.length_append, sumT, List.length_cons]
    omega
theorem slT_succ (base p : Nat) (l : List It) (n : Nat) : slT base p l (n + 1) = slT base p l n ++ leB (base + (ct p (l.take n)).length) 2 := by simp [slT, List.range_succ]
theorem slT_length (base p : Nat) (l : List It) (n : Nat) : (slT base p l n).length = 2 * n := by
  induction n with
  | zero => rfl
  | succ n ih => rw [slT_succ, List.length_append, ih, leB_length]; omega
theorem headT_length (l : List It) : (headT l).length = 3 + vl (preT l) + preT l := by
  unfold headT vl
  simp only [List.length_append, List.length_cons, List.length_nil, leB_length, preT_head]
theorem usedT_length {l : List It} (h : OkT l) : (usedT l).length = sizeT l := by
  have := ct_length (preT l) l h.len h.hold
  unfold usedT sizeT
  simp only [List.length_append, headT_length, slT_length]
  omega
theorem bodyT_length {l : List It} (h : OkT l) : (bodyT l).length = 4092 := by
  unfold bodyT
  rw [List.length_append, usedT_length h, zer_length]
  have := h.size
  omega
/-- where the i-th cell lies, and that it fits. -/
theorem cellT_fit {l : List It} (h : OkT l) (i : Nat) (x : It) (hx : l[i]? = some x) : (headT l).length + 2 * l.length + (ct (preT l) (l.take i)).length + (cellT (preT l) x).length ≤ 4092 := by
  have h1 := usedT_length h
  have h2 := h.size
  have h3 := ct_succ (preT l) l i x hx
  have h4 : (ct (preT l) (l.take (i + 1))).length ≤ (ct (preT l) l).length := by
    have := congrArg List.length (ct_append (preT l) (l.take (i + 1)) (l.drop (i + 1)))
    rw [List.take_append_drop, List.length_append] at this
    omega
  rw [h3, List.length_append] at h4
  unfold usedT at h1
  simp only [List.length_append, slT_length] at h1
  omega

/-! ### what the code reads -/
def strT (B : List UInt8) (at_ : Nat) (e : Int) : List UInt8 × Nat × Int := bytesS B (vS B at_ e).2.1 (vS B at_ e).2.2 ((min (vS B at_ e).1 4092 : Nat) : Int)
def tailT (B k : List UInt8) (t at_ : Nat) (e : Int) : It × Nat × Int :=
  if 524289 < t then (⟨k, [], 0, 0⟩, (bytesS B at_ e (-1)).2)
  else if t % 2 = 1 then (⟨k, [], ((t / 2 : Nat) : Int), ((numS B at_ e 4).1 : Nat)⟩, (numS B at_ e 4).2)
  else (⟨k, (bytesS B at_ e ((t / 2 : Nat) : Int)).1, ((t / 2 : Nat) : Int), 0⟩, (bytesS B at_ e ((t / 2 : Nat) : Int)).2)
def itemT (B pre : List UInt8) (at_ : Nat) (e : Int) : It × Nat × Int :=
  tailT B (pre ++ (strT B at_ e).1) (vS B (strT B at_ e).2.1 (strT B at_ e).2.2).1 (vS B (strT B at_ e).2.1 (strT B at_ e).2.2).2.1 (vS B (strT B at_ e).2.1 (strT B at_ e).2.2).2.2
def itemsT (B pre : List UInt8) : Nat → Nat → Int → Option (List It)
  | 0, _, _ => some []
  | n + 1, at_, e => if (itemT B pre at_ e).2.2 = 0 then (itemsT B pre n (itemT B pre at_ e).2.1 (itemT B pre at_ e).2.2).map ((itemT B pre at_ e).1 :: ·) else none
def cntT (B : List UInt8) : Nat × Nat × Int := numS B (bytesS B 0 0 1).2.1 (bytesS B 0 0 1).2.2 2
def pfxT (B : List UInt8) : List UInt8 × Nat × Int := strT B (cntT B).2.1 (cntT B).2.2
def skipT (B : List UInt8) : List UInt8 × Nat × Int := bytesS B (pfxT B).2.1 (pfxT B).2.2 ((2 * (cntT B).1 : Nat) : Int)
def readT (B : List UInt8) : Option (List It) := itemsT B (pfxT B).1 (cntT B).1 (skipT B).2.1 (skipT B).2.2
/-- what Decode answers. -/
def chkT (B : List UInt8) : Option (List It) → Option (List It)
  | none => none
  | some l => if errT l = 0 ∧ bodyT l = B then some l else none
def decT (B : List UInt8) : Option (List It) := if B.length = 4092 then chkT B (readT B) else none

theorem dropT_le {B x r : List UInt8} {at_ : Nat} (h : B.drop at_ = x ++ r) (hb : at_ ≤ B.length) : at_ + x.length ≤ B.length := by
  have := congrArg List.length h
  rw [List.length_drop, List.length_append] at this
  omega
theorem strT_front (B : List UInt8) (at_ d : Nat) (x r : List UInt8) (h : B.drop at_ = vF 9 d ++ (x ++ r)) (hb : at_ ≤ B.length) (hx : x.length = d) (hd : d ≤ 4092) : strT B at_ 0 = (x, at_ + vl d + d, 0) := by
  have e1 := vS_front B at_ d _ h (by omega)
  have hl := dropT_le h hb
  have hm := drop_more h
  have hl2 := dropT_le hm hl
  rw [hx] at hl2
  unfold strT
  rw [e1]
  simp only
  rw [Nat.min_eq_left hd]
  exact bytesS_front B _ d x r hm hx hl2
theorem itemT_front (B pre : List UInt8) (p at_ : Nat) (x : It) (r : List UInt8) (h : B.drop at_ = cellT p x ++ r) (hb : at_ ≤ B.length) (hp : x.k.take p = pre) (hk : x.k.length - p ≤ 4092) (h1 : lenOk x = true) (h2 : holdT x = true) :
    itemT B pre at_ 0 = (x, at_ + (cellT p x).length, 0) := by
  obtain ⟨c1, c2, c3⟩ := clampT_of h1
  have hlen : (cellT p x).length = vl (x.k.length - p) + (x.k.length - p) + (restT x).length := by
    unfold cellT
    rw [List.length_append, List.length_append, List.length_drop]
    show vl _ + _ = _
    omega
  rw [hlen]
  unfold cellT at h
  rw [List.append_assoc, List.append_assoc] at h
  have e1 := strT_front B at_ (x.k.length - p) (x.k.drop p) _ h hb (by rw [List.length_drop]) hk
  have l1 := dropT_le h hb
  have d1 := drop_more h
  have l2 := dropT_le d1 l1
  have d2 := drop_more d1
  rw [List.length_drop, show (vF 9 (x.k.length - p)).length = vl (x.k.length - p) from rfl] at l2 d2
  have hkey : pre ++ x.k.drop p = x.k := by rw [← hp, List.take_append_drop]
  unfold itemT
  rw [e1]
  simp only
  rw [hkey]
  obtain ⟨at2, hat⟩ : ∃ a, at_ + vl (x.k.length - p) + (x.k.length - p) = a := ⟨_, rfl⟩
  rw [hat] at d2 l2 ⊢
  have hat' : at_ + (vl (x.k.length - p) + (x.k.length - p) + (restT x).length) = at2 + (restT x).length := by omega
  rw [hat']
  unfold holdT at h2
  unfold restT at d2 ⊢
  by_cases hs : 512 < x.s
  · rw [if_pos hs] at h2 d2 ⊢
    have q := of_decide_eq_true h2
    rw [List.append_assoc] at d2
    have e2 := vS_front B at2 (2 * x.s.toNat + 1) _ d2 (by omega)
    have l3 := dropT_le d2 l2
    have d3 := drop_more d2
    have hf4 : x.f.toNat < 256 ^ 4 := Nat.lt_of_le_of_lt (m := 524287) (by omega) (by decide)
    have l4 := dropT_le d3 l3
    rw [leB_length] at l4
    have e3 := numS_front B _ 4 x.f.toNat _ d3 hf4 l4
    rw [show (vF 9 (2 * x.s.toNat + 1)).length = vl (2 * x.s.toNat + 1) from rfl] at e3
    rw [e2]
    simp only
    unfold tailT
    rw [if_neg (by omega), if_pos (by omega), e3]
    have hv : x.v = [] := List.eq_nil_of_length_eq_zero q.1
    have e4 : (2 * x.s.toNat + 1) / 2 = x.s.toNat := by omega
    rw [e4, List.length_append, leB_length]
    simp only [Prod.mk.injEq, and_true]
    refine ⟨?_, by show _ = at2 + (vl _ + 4); omega⟩
    cases x with
    | mk k v s f =>
      simp only at hv c2 q ⊢
      subst hv
      rw [c2]
      congr 1
      omega
  · rw [if_neg hs] at h2 d2 ⊢
    have q := of_decide_eq_true h2
    rw [List.append_assoc] at d2
    have e2 := vS_front B at2 (2 * x.s.toNat) _ d2 (by omega)
    have l3 := dropT_le d2 l2
    have d3 := drop_more d2
    have l4 := dropT_le d3 l3
    have e3 := bytesS_front B _ x.s.toNat x.v r d3 (by omega) (by omega)
    rw [show (vF 9 (2 * x.s.toNat)).length = vl (2 * x.s.toNat) from rfl] at e3
    rw [e2]
    simp only
    unfold tailT
    have e4 : 2 * x.s.toNat / 2 = x.s.toNat := by omega
    rw [if_neg (by omega), if_neg (by omega), e4, e3, List.length_append]
    simp only [Prod.mk.injEq, and_true]
    refine ⟨?_, by show _ = at2 + (vl _ + _); omega⟩
    cases x with
    | mk k v s f =>
      simp only at c2 q ⊢
      rw [c2, q.2]
theorem itemsT_front (B pre : List UInt8) (p : Nat) (l : List It) (at_ : Nat) (r : List UInt8) (h : B.drop at_ = ct p l ++ r) (hb : at_ ≤ B.length)
    (hz : ∀ x ∈ l, x.k.take p = pre ∧ x.k.length - p ≤ 4092 ∧ lenOk x = true ∧ holdT x = true) : itemsT B pre l.length at_ 0 = some l := by
  induction l generalizing at_ with
  | nil => rfl
  | cons x l ih =>
    obtain ⟨h1, h2, h3, h4⟩ := hz x (by simp)
    rw [ct_cons, List.append_assoc] at h
    have e1 := itemT_front B pre p at_ x _ h hb h1 h2 h3 h4
    have l1 := dropT_le h hb
    have d1 := drop_more h
    rw [List.length_cons, itemsT, e1]
    simp only [if_true]
    rw [ih _ d1 l1 (fun y hy => hz y (by simp [hy]))]
    rfl
theorem readT_body {l : List It} (h : OkT l) : readT (bodyT l) = some l := by
  have hB := bodyT_length h
  have hf := h.few
  obtain ⟨B, eB⟩ : ∃ B, bodyT l = B := ⟨_, rfl⟩
  rw [eB] at hB ⊢
  have hle : preT l ≤ 4092 := by
    have := h.size
    unfold sizeT at this
    omega
  have hpl := preT_head l
  have d0 : B.drop 0 = [1] ++ (leB l.length 2 ++ (vF 9 (preT l) ++ (((keysT l).headD []).take (preT l) ++ (slT ((headT l).length + 2 * l.length) (preT l) l l.length ++ (ct (preT l) l ++ zer (4092 - sizeT l)))))) := by
    rw [List.drop_zero, ← eB]
    unfold bodyT usedT
    simp only [headT, List.append_assoc]
  have q1 := bytesS_front B 0 1 [1] _ d0 rfl (by omega)
  have d1 := drop_more d0
  rw [show ([1] : List UInt8).length = 1 from rfl] at d1
  have q2 := numS_front B (0 + 1) 2 l.length _ d1 (Nat.lt_of_le_of_lt (m := 1022) hf (by decide)) (by omega)
  have d2 := drop_more d1
  rw [leB_length] at d2
  have q3 := strT_front B (0 + 1 + 2) (preT l) _ _ d2 (by omega) hpl hle
  have l2 := dropT_le d2 (by omega)
  have d3 := drop_more d2
  have l3 := dropT_le d3 l2
  have d4 := drop_more d3
  rw [hpl, show (vF 9 (preT l)).length = vl (preT l) from rfl] at l3 d4
  have hsl := slT_length ((headT l).length + 2 * l.length) (preT l) l l.length
  have l4 := dropT_le d4 l3
  rw [hsl] at l4
  have q4 := bytesS_front B _ (2 * l.length) _ _ d4 hsl l4
  have d5 := drop_more d4
  rw [hsl] at d5
  have q5 := itemsT_front B (((keysT l).headD []).take (preT l)) (preT l) l _ _ d5 l4 (fun x hx => by
    have := of_decide_eq_true (h.len x hx)
    exact ⟨(preT_le l x hx).1, by omega, h.len x hx, h.hold x hx⟩)
  have hc : cntT B = (l.length, 0 + 1 + 2, 0) := by
    unfold cntT
    rw [show bytesS B 0 0 1 = ([1], 0 + 1, 0) from q1]; exact q2
  have hp : pfxT B = (((keysT l).headD []).take (preT l), 0 + 1 + 2 + vl (preT l) + preT l, 0) := by unfold pfxT; rw [hc]; exact q3
  have hs : skipT B = (slT ((headT l).length + 2 * l.length) (preT l) l l.length, 0 + 1 + 2 + vl (preT l) + preT l + 2 * l.length, 0) := by
    unfold skipT; rw [hp, hc]; exact q4
  unfold readT
  rw [hp, hc, hs]
  exact q5
theorem decT_some {B : List UInt8} {l : List It} (h : decT B = some l) : errT l = 0 ∧ bodyT l = B ∧ OkT l ∧ B.length = 4092 := by
  unfold decT at h
  by_cases hl : B.length = 4092
  · rw [if_pos hl] at h
    rcases hr : readT B with _ | m
    · rw [hr] at h; cases h
    · rw [hr] at h
      unfold chkT at h
      by_cases q : errT m = 0 ∧ bodyT m = B
      · simp only [if_pos q] at h
        cases h
        exact ⟨q.1, q.2, okT_of q.1, hl⟩
      · simp only [if_neg q] at h
        cases h
  · rw [if_neg hl] at h; cases h
theorem decT_body {l : List It} (h : errT l = 0) : decT (bodyT l) = some l := by
  have hO := okT_of h
  unfold decT
  rw [if_pos (bodyT_length hO), readT_body hO]
  unfold chkT
  simp [h]
theorem bodyT_inj {l m : List It} (h : errT l = 0) (h' : errT m = 0) (e : bodyT l = bodyT m) : l = m := by
  have h1 := decT_body h
  rw [e, decT_body h'] at h1
  exact (Option.some.inj h1).symm
end Go.Proofs.Ytieoleiokjoccaa
