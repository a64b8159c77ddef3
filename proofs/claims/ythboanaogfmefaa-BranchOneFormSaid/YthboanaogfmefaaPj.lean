/- Plain: what branch.read answers at a branch's own body. No program in sight. -/
import Derived.Test.YthboanaogfmefaaPi
namespace Go.Proofs.Ythboanaogfmefaa
open Go.RowKit

theorem drop_le {B x r : List UInt8} {at_ : Nat} (h : B.drop at_ = x ++ r) (hb : at_ ≤ B.length) : at_ + x.length ≤ B.length := by
  have := congrArg List.length h
  rw [List.length_drop, List.length_append] at this
  omega
theorem kidS_front (B : List UInt8) (at_ : Nat) (k : Int × Int) (r : List UInt8) (h : B.drop at_ = kidB k ++ r) (hb : at_ ≤ B.length) (hk : kidOk k = true) : ki (kidS B at_ 0).1 = k ∧ (kidS B at_ 0).2 = (at_ + 8, 0) := by
  obtain ⟨h1, h2, h3, h4⟩ := kid_toNat hk
  have hl := drop_le h hb
  rw [kidB_length] at hl
  unfold kidB at h
  rw [List.append_assoc] at h
  have e1 := numS_front B at_ 4 k.1.toNat _ h h3 (by omega)
  have hd := drop_more h
  rw [leB_length] at hd
  have e2 := numS_front B (at_ + 4) 4 k.2.toNat _ hd h4 (by omega)
  unfold kidS ki
  rw [e1]
  simp only
  rw [e2]
  simp only
  rw [h1, h2]
  exact ⟨rfl, trivial⟩
theorem strS_front (B : List UInt8) (at_ d : Nat) (x r : List UInt8) (h : B.drop at_ = vF 9 d ++ (x ++ r)) (hb : at_ ≤ B.length) (hx : x.length = d) (hd : d ≤ 4092) : strS B at_ 0 = (x, at_ + vl d + d, 0) := by
  have e1 := vS_front B at_ d _ h (by omega)
  have hl := drop_le h hb
  have hm := drop_more h
  have hl2 := drop_le hm hl
  rw [hx] at hl2
  unfold strS
  rw [e1]
  simp only
  rw [Nat.min_eq_left hd]
  exact bytesS_front B _ d x r hm hx hl2
theorem seps_body (B pre : List UInt8) (p : Nat) (zs : List (List UInt8 × (Int × Int))) (at_ : Nat) (r : List UInt8) (h : B.drop at_ = cz p zs ++ r) (hb : at_ ≤ B.length)
    (hz : ∀ z ∈ zs, z.1.take p = pre ∧ z.1.length - p ≤ 4092 ∧ kidOk z.2 = true) : sepsS B pre zs.length at_ 0 = (zs.map (·.1), zs.map (·.2)) := by
  induction zs generalizing at_ with
  | nil => rfl
  | cons z zs ih =>
    obtain ⟨h1, h2, h3⟩ := hz z (by simp)
    rw [cz_cons, List.append_assoc] at h
    have hc := h
    unfold cellB at h
    rw [List.append_assoc, List.append_assoc] at h
    have e1 := strS_front B at_ (z.1.length - p) (z.1.drop p) _ h hb (by rw [List.length_drop]) h2
    have l1 := drop_le h hb
    have d1 := drop_more h
    have l2 := drop_le d1 l1
    have d2 := drop_more d1
    rw [List.length_drop, show (vF 9 (z.1.length - p)).length = vl (z.1.length - p) from rfl] at l2 d2
    obtain ⟨k1, k2⟩ := kidS_front B _ z.2 _ d2 l2 h3
    have l3 := drop_le d2 l2
    have d3 := drop_more d2
    rw [kidB_length] at l3 d3
    have hlen := drop_le hc hb
    have hcl := cellB_length p z
    have hleft : ¬ leftS B at_ 0 = 0 := by
      unfold leftS
      rw [if_pos rfl]
      omega
    rw [List.length_cons, sepsS, if_neg hleft, e1]
    simp only
    rw [k1, k2]
    simp only
    rw [ih _ d3 l3 (fun y hy => hz y (by simp [hy]))]
    simp only [List.map_cons, ← h1, List.take_append_drop]
theorem lev_one {level : Int} (h1 : 1 ≤ level) (h2 : level ≤ 15) : [UInt8.ofNat level.toNat] = leB level.toNat 1 := by
  unfold leB
  rw [show leB (level.toNat / 256) 0 = [] from rfl]
  congr 1
  first | rfl | (rw [Nat.mod_eq_of_lt (by omega)])
theorem zip_fst_snd (l : List (List UInt8)) (ks : List (Int × Int)) (h : ks.length = l.length + 1) : (zips l ks).map (·.1) = l ∧ (zips l ks).map (·.2) = ks.drop 1 := by
  unfold zips
  exact ⟨List.map_fst_zip (by rw [List.length_drop]; omega), List.map_snd_zip (by rw [List.length_drop]; omega)⟩
theorem read_body {level : Int} {l : List (List UInt8)} {ks : List (Int × Int)} (h : Ok level l ks) : levD (bodyB level l ks) = level ∧ (restS (bodyB level l ks)).1 = l ∧ kidsD (bodyB level l ks) = ks := by
  have hB := bodyB_length h
  have hf := few_seps h
  obtain ⟨B, eB⟩ : ∃ B, bodyB level l ks = B := ⟨_, rfl⟩
  rw [eB] at hB ⊢
  have hle : Key.comAll l ≤ 4092 := by
    have := h.size
    unfold sizeS at this
    omega
  have hpl : ((l.headD []).take (Key.comAll l)).length = Key.comAll l := by
    rw [List.length_take]
    by_cases hn : l = []
    · subst hn; rfl
    · exact Nat.min_eq_left (pre_le_head l hn)
  have d0 : B.drop 0 = leB 2 1 ++ (leB level.toNat 1 ++ (leB ks.length 2 ++ (vF 9 (Key.comAll l) ++ ((l.headD []).take (Key.comAll l) ++ (sz ((headB level l ks).length + 2 * l.length + 8) (Key.comAll l) (zips l ks) l.length ++ (kidB (kid0 ks) ++ (cz (Key.comAll l) (zips l ks) ++ List.replicate (4092 - sizeS l) 0))))))) := by
    rw [List.drop_zero, ← eB, ← lev_one h.l1 h.l2]
    unfold bodyB usedB frontB
    rw [show leB 2 1 = [2] from rfl]
    conv => lhs; unfold headB
    simp only [List.append_assoc, List.cons_append, List.nil_append]
    congr 5
  have q1 := numS_front B 0 1 2 _ d0 (by decide) (by omega)
  have d1 := drop_more d0
  rw [leB_length] at d1
  have q2 := numS_front B (0 + 1) 1 level.toNat _ d1 (Nat.lt_of_le_of_lt (m := 15) (by have := h.l2; omega) (by decide)) (by omega)
  have d2 := drop_more d1
  rw [leB_length] at d2
  have q3 := numS_front B (0 + 1 + 1) 2 ks.length _ d2 (Nat.lt_of_le_of_lt (m := 373) (by rw [h.n]; omega) (by decide)) (by omega)
  have d3 := drop_more d2
  rw [leB_length] at d3
  have q4 := strS_front B (0 + 1 + 1 + 2) (Key.comAll l) _ _ d3 (by omega) hpl hle
  have l3 := drop_le d3 (by omega)
  have d4 := drop_more d3
  have l4 := drop_le d4 l3
  have d5 := drop_more d4
  rw [hpl, show (vF 9 (Key.comAll l)).length = vl (Key.comAll l) from rfl] at l4 d5
  have hsl := sz_length ((headB level l ks).length + 2 * l.length + 8) (Key.comAll l) (zips l ks) l.length
  have l5 := drop_le d5 l4
  rw [hsl] at l5
  have q5 := bytesS_front B _ (2 * l.length) _ _ d5 hsl l5
  have d6 := drop_more d5
  rw [hsl] at d6
  obtain ⟨k, hk⟩ : ∃ k, ks[0]? = some k := ⟨_, List.getElem?_eq_getElem (by rw [h.n]; omega)⟩
  have ek : kid0 ks = k := by
    unfold kid0
    rw [List.headD_eq_head?_getD, List.head?_eq_getElem?, hk]; rfl
  have e1 : ks = k :: ks.drop 1 := by
    cases ks with
    | nil => simp at hk
    | cons a t => simp at hk; subst hk; rfl
  rw [ek] at d6
  obtain ⟨k1, k2⟩ := kidS_front B _ k _ d6 l5 (h.kids k (List.mem_of_getElem? hk))
  have l6 := drop_le d6 l5
  have d7 := drop_more d6
  rw [kidB_length] at l6 d7
  obtain ⟨z1, z2⟩ := zip_fst_snd l ks h.n
  have q7 := seps_body B ((l.headD []).take (Key.comAll l)) (Key.comAll l) (zips l ks) _ _ d7 l6 (by
    intro z hz
    have m1 : z.1 ∈ l := by rw [← z1]; exact List.mem_map_of_mem hz
    have m2 : z.2 ∈ ks := List.mem_of_mem_drop (i := 1) (by rw [← z2]; exact List.mem_map_of_mem hz)
    have := of_decide_eq_true (h.seps _ m1)
    exact ⟨(pre_take l _ m1).1, by omega, h.kids _ m2⟩)
  rw [zips_length l ks h.n, z1, z2] at q7
  have hkd : kindS B = (2, 0 + 1, 0) := q1
  have hlv : levS B = (level.toNat, 0 + 1 + 1, 0) := by unfold levS; rw [hkd]; exact q2
  have hct : cntS B = (ks.length, 0 + 1 + 1 + 2, 0) := by unfold cntS; rw [hlv]; exact q3
  have hpr := q4
  have hps : preS B = ((l.headD []).take (Key.comAll l), 0 + 1 + 1 + 2 + vl (Key.comAll l) + Key.comAll l, 0) := by unfold preS; rw [hct]; exact hpr
  have hn1 : ks.length - 1 = l.length := by rw [h.n]; rfl
  have hsk : (skipS B).2 = (0 + 1 + 1 + 2 + vl (Key.comAll l) + Key.comAll l + 2 * l.length, 0) := by
    unfold skipS
    rw [hps, hct]
    simp only
    rw [hn1, show (2 : Int) * ((l.length : Nat) : Int) = ((2 * l.length : Nat) : Int) by omega, q5]
  have hfs : fstS B = kidS B (0 + 1 + 1 + 2 + vl (Key.comAll l) + Key.comAll l + 2 * l.length) 0 := by unfold fstS; rw [hsk]
  have hrs : restS B = (l, ks.drop 1) := by
    unfold restS
    rw [hps, hct, hfs, k2, hn1]
    exact q7
  refine ⟨?_, ?_, ?_⟩
  · unfold levD
    rw [hlv]
    have := h.l1
    show ((level.toNat : Nat) : Int) = level
    omega
  · rw [hrs]
  · unfold kidsD
    rw [hrs, hfs, k1]
    exact e1.symm
theorem body_dec {b : List UInt8} {level : Int} {l : List (List UInt8)} {ks : List (Int × Int)} (h : IsBody b level l ks) : okDec b = true ∧ levD b = level ∧ (restS b).1 = l ∧ kidsD b = ks := by
  obtain ⟨hw, rfl⟩ := h
  have hO := ok_of hw
  obtain ⟨h1, h2, h3⟩ := read_body hO
  refine ⟨?_, h1, h2, h3⟩
  unfold okDec
  rw [h1, h2, h3]
  unfold encB
  rw [if_pos hw]
  exact decide_eq_true ⟨bodyB_length hO, rfl, rfl⟩
theorem dec_body {b : List UInt8} (h : okDec b = true) : IsBody b (levD b) (restS b).1 (kidsD b) := by
  have q := of_decide_eq_true h
  unfold encB at q
  by_cases hw : wrongS (levD b) (restS b).1 (kidsD b) = 0
  · rw [if_pos hw] at q
    exact ⟨hw, q.2.2⟩
  · rw [if_neg hw] at q
    exact absurd q.2.1 hw
theorem one_body {b : List UInt8} {v v' : Int} {l l' : List (List UInt8)} {ks ks' : List (Int × Int)} (h : IsBody b v l ks) (h' : IsBody b v' l' ks') : v = v' ∧ l = l' ∧ ks = ks' := by
  obtain ⟨-, h1, h2, h3⟩ := body_dec h
  obtain ⟨-, k1, k2, k3⟩ := body_dec h'
  exact ⟨h1.symm.trans k1, h2.symm.trans k2, h3.symm.trans k3⟩
end Go.Proofs.Ythboanaogfmefaa
