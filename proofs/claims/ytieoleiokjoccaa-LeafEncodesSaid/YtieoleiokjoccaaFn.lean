/- Plain: what coppiceref4's Decode reads, and that it answers what leaf's Decode answers. No program in sight. -/
import Derived.Test.YtieoleiokjoccaaFa
namespace Go.Proofs.Ytieoleiokjoccaa

def strR (B : List UInt8) (at_ : Nat) (e : Int) : List UInt8 × Nat × Int :=
  if 255 < (vS B at_ e).1 then ([], (vS B at_ e).2.1, 10) else bytesS B (vS B at_ e).2.1 (vS B at_ e).2.2 (((vS B at_ e).1 : Nat) : Int)
def tailR (B k : List UInt8) (t at_ : Nat) (e : Int) : It × Nat × Int :=
  if 524289 < t then (⟨k, [], ((t / 2 : Nat) : Int), 0⟩, at_, 10)
  else if t % 2 = 1 then (⟨k, [], ((t / 2 : Nat) : Int), ((numS B at_ e 4).1 : Nat)⟩, (numS B at_ e 4).2)
  else (⟨k, (bytesS B at_ e ((t / 2 : Nat) : Int)).1, ((t / 2 : Nat) : Int), 0⟩, (bytesS B at_ e ((t / 2 : Nat) : Int)).2)
def itemR (B pre : List UInt8) (at_ : Nat) (e : Int) : It × Nat × Int :=
  tailR B (pre ++ (strR B at_ e).1) (vS B (strR B at_ e).2.1 (strR B at_ e).2.2).1 (vS B (strR B at_ e).2.1 (strR B at_ e).2.2).2.1 (vS B (strR B at_ e).2.1 (strR B at_ e).2.2).2.2
def itemsR (B pre : List UInt8) : Nat → Nat → Int → Option (List It)
  | 0, _, e => if e = 0 then some [] else none
  | n + 1, at_, e => if e = 0 then (itemsR B pre n (itemR B pre at_ e).2.1 (itemR B pre at_ e).2.2).map ((itemR B pre at_ e).1 :: ·) else none
def cntR (B : List UInt8) : Nat × Nat × Int := numS B (numS B 0 0 1).2.1 (numS B 0 0 1).2.2 2
def pR (B : List UInt8) : Nat × Nat × Int := vS B (cntR B).2.1 (cntR B).2.2
def pfxR (B : List UInt8) : List UInt8 × Nat × Int := bytesS B (pR B).2.1 (pR B).2.2 (((pR B).1 : Nat) : Int)
def skipR (B : List UInt8) : List UInt8 × Nat × Int := bytesS B (pfxR B).2.1 (pfxR B).2.2 ((2 * (cntR B).1 : Nat) : Int)
def readR (B : List UInt8) : Option (List It) := if 255 < (pR B).1 then none else itemsR B (pfxR B).1 (cntR B).1 (skipR B).2.1 (skipR B).2.2
def decR (B : List UInt8) : Option (List It) := if B.length = 4092 then chkT B (readR B) else none

theorem strR_front (B : List UInt8) (at_ d : Nat) (x r : List UInt8) (h : B.drop at_ = vF 9 d ++ (x ++ r)) (hb : at_ ≤ B.length) (hx : x.length = d) (hd : d ≤ 255) : strR B at_ 0 = (x, at_ + vl d + d, 0) := by
  have e1 := vS_front B at_ d _ h (by omega)
  have hl := dropT_le h hb
  have hm := drop_more h
  have hl2 := dropT_le hm hl
  rw [hx] at hl2
  unfold strR
  rw [e1]
  simp only
  rw [if_neg (by omega)]
  exact bytesS_front B _ d x r hm hx hl2
theorem itemR_front (B pre : List UInt8) (p at_ : Nat) (x : It) (r : List UInt8) (h : B.drop at_ = cellT p x ++ r) (hb : at_ ≤ B.length) (hp : x.k.take p = pre) (h1 : lenOk x = true) (h2 : holdT x = true) :
    itemR B pre at_ 0 = (x, at_ + (cellT p x).length, 0) := by
  have hk := of_decide_eq_true h1
  obtain ⟨c1, c2, c3⟩ := clampT_of h1
  have e0 := itemT_front B pre p at_ x r h hb hp (by omega) h1 h2
  rw [← e0]
  unfold cellT at h
  rw [List.append_assoc, List.append_assoc] at h
  have e1 := strR_front B at_ (x.k.length - p) (x.k.drop p) _ h hb (by rw [List.length_drop]) (by omega)
  have e2 := strT_front B at_ (x.k.length - p) (x.k.drop p) _ h hb (by rw [List.length_drop]) (by omega)
  unfold itemR itemT
  rw [e1, e2]
  simp only
  have l1 := dropT_le h hb
  have d1 := drop_more h
  have l2 := dropT_le d1 l1
  have d2 := drop_more d1
  rw [List.length_drop, show (vF 9 (x.k.length - p)).length = vl (x.k.length - p) from rfl] at l2 d2
  obtain ⟨at2, hat⟩ : ∃ a, at_ + vl (x.k.length - p) + (x.k.length - p) = a := ⟨_, rfl⟩
  rw [hat] at d2 l2 ⊢
  have ht : (vS B at2 0).1 ≤ 524289 := by
    unfold restT at d2
    by_cases hs : 512 < x.s
    · rw [if_pos hs, List.append_assoc] at d2
      rw [vS_front B at2 (2 * x.s.toNat + 1) _ d2 (by omega)]
      simp only
      omega
    · rw [if_neg hs, List.append_assoc] at d2
      rw [vS_front B at2 (2 * x.s.toNat) _ d2 (by omega)]
      simp only
      omega
  have hn : ¬ 524289 < (vS B at2 0).1 := by omega
  unfold tailR tailT
  rw [if_neg hn, if_neg hn]
theorem itemsR_front (B pre : List UInt8) (p : Nat) (l : List It) (at_ : Nat) (r : List UInt8) (h : B.drop at_ = ct p l ++ r) (hb : at_ ≤ B.length)
    (hz : ∀ x ∈ l, x.k.take p = pre ∧ lenOk x = true ∧ holdT x = true) : itemsR B pre l.length at_ 0 = some l := by
  induction l generalizing at_ with
  | nil => rfl
  | cons x l ih =>
    obtain ⟨h1, h3, h4⟩ := hz x (by simp)
    rw [ct_cons, List.append_assoc] at h
    have e1 := itemR_front B pre p at_ x _ h hb h1 h3 h4
    have l1 := dropT_le h hb
    have d1 := drop_more h
    rw [List.length_cons, itemsR, e1]
    simp only [if_true]
    rw [ih _ d1 l1 (fun y hy => hz y (by simp [hy]))]
    rfl
theorem readR_body {l : List It} (h : OkT l) : readR (bodyT l) = some l := by
  have hB := bodyT_length h
  have hf := h.few
  obtain ⟨B, eB⟩ : ∃ B, bodyT l = B := ⟨_, rfl⟩
  rw [eB] at hB ⊢
  have hp255 : preT l ≤ 255 := by
    obtain ⟨x, hx⟩ : ∃ x, x ∈ l := by
      cases l with
      | nil => exact absurd rfl h.n
      | cons x t => exact ⟨x, by simp⟩
    have h1 := (preT_le l x hx).2
    have h2 := of_decide_eq_true (h.len x hx)
    omega
  have hpl := preT_head l
  have d0 : B.drop 0 = [1] ++ (leB l.length 2 ++ (vF 9 (preT l) ++ (((keysT l).headD []).take (preT l) ++ (slT ((headT l).length + 2 * l.length) (preT l) l l.length ++ (ct (preT l) l ++ zer (4092 - sizeT l)))))) := by
    rw [List.drop_zero, ← eB]
    unfold bodyT usedT
    simp only [headT, List.append_assoc]
  have q1 := numS_front B 0 1 1 _ (show B.drop 0 = leB 1 1 ++ _ from d0) (by decide) (by omega)
  have d1 := drop_more d0
  rw [show ([1] : List UInt8).length = 1 from rfl] at d1
  have q2 := numS_front B (0 + 1) 2 l.length _ d1 (Nat.lt_of_le_of_lt (m := 1022) hf (by decide)) (by omega)
  have d2 := drop_more d1
  rw [leB_length] at d2
  have q3 := vS_front B (0 + 1 + 2) (preT l) _ d2 (by omega)
  have l2 := dropT_le d2 (by omega)
  have d3 := drop_more d2
  rw [show (vF 9 (preT l)).length = vl (preT l) from rfl] at d3 l2
  have l3 := dropT_le d3 l2
  rw [hpl] at l3
  have q4 := bytesS_front B _ (preT l) _ _ d3 hpl l3
  have d4 := drop_more d3
  rw [hpl] at d4
  have hsl := slT_length ((headT l).length + 2 * l.length) (preT l) l l.length
  have l4 := dropT_le d4 l3
  rw [hsl] at l4
  have q5 := bytesS_front B _ (2 * l.length) _ _ d4 hsl l4
  have d5 := drop_more d4
  rw [hsl] at d5
  have q6 := itemsR_front B (((keysT l).headD []).take (preT l)) (preT l) l _ _ d5 l4 (fun x hx => ⟨(preT_le l x hx).1, h.len x hx, h.hold x hx⟩)
  have hc : cntR B = (l.length, 0 + 1 + 2, 0) := by unfold cntR; rw [q1]; exact q2
  have hv : pR B = (preT l, 0 + 1 + 2 + vl (preT l), 0) := by unfold pR; rw [hc]; exact q3
  have hp : pfxR B = (((keysT l).headD []).take (preT l), 0 + 1 + 2 + vl (preT l) + preT l, 0) := by unfold pfxR; rw [hv]; exact q4
  have hs : skipR B = (slT ((headT l).length + 2 * l.length) (preT l) l l.length, 0 + 1 + 2 + vl (preT l) + preT l + 2 * l.length, 0) := by
    unfold skipR; rw [hp, hc]; exact q5
  unfold readR
  rw [hv, hp, hc, hs]
  simp only
  rw [if_neg (by omega)]
  exact q6
theorem decR_eq (B : List UInt8) : decR B = decT B := by
  have key : ∀ (rd rd' : List UInt8 → Option (List It)), (∀ {l : List It}, OkT l → rd (bodyT l) = some l) → (∀ {l : List It}, OkT l → rd' (bodyT l) = some l) → ∀ l, chkT B (rd B) = some l → chkT B (rd' B) = some l := by
    intro rd rd' _ h' l hl
    rcases hr : rd B with _ | m
    · rw [hr] at hl; cases hl
    · rw [hr] at hl
      unfold chkT at hl
      by_cases q : errT m = 0 ∧ bodyT m = B
      · simp only [if_pos q] at hl
        cases hl
        have := h' (okT_of q.1)
        rw [q.2] at this
        rw [this]
        unfold chkT
        simp only [if_pos q]
      · simp only [if_neg q] at hl
        cases hl
  unfold decR decT
  by_cases hl : B.length = 4092
  · rw [if_pos hl, if_pos hl]
    rcases h1 : chkT B (readR B) with _ | l
    · rcases h2 : chkT B (readT B) with _ | m
      · rfl
      · have := key readT readR (fun h => readT_body h) (fun h => readR_body h) m h2
        rw [h1] at this; cases this
    · exact (key readR readT (fun h => readR_body h) (fun h => readT_body h) l h1).symm
  · rw [if_neg hl, if_neg hl]
end Go.Proofs.Ytieoleiokjoccaa
