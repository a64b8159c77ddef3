/- branch.Encode of a branch that may be. -/
import Derived.Test.YtmeakhiiebeneaaGreatDoorPc
import Derived.Deep.RegionLaw
namespace Go.Proofs.YtmeakhiiebeneaaGreatDoor
open Go.RowKit

set_option maxRecDepth 100000 in
theorem RK.cells {w : World} {ad : Addr} {n c : Nat} {l : List (Int × Int)} (h : RK w (some ad) n c l) (j : Nat) (x y : Int) (hk : l[j]? = some (x, y)) : w.cell? (ad.add (j * 2)) = some (.int .i64 x) ∧ w.cell? ⟨(ad.add (j * 2)).block, (ad.add (j * 2)).off + 1, none⟩ = some (.int .i64 y) := by
  have hj : j < n := by rw [← h.len]; exact (List.getElem?_eq_some_iff.1 hk).1
  obtain ⟨ad', x', y', e, hx, c1, c2⟩ := h.at_ j hj
  rw [hk] at hx
  cases e
  cases hx
  exact ⟨c1, c2⟩
set_option maxRecDepth 100000 in
theorem zips_get (l : List (List UInt8)) (ks : List (Int × Int)) (i : Nat) (s : List UInt8) (k : Int × Int) (hs : l[i]? = some s) (hk : ks[i + 1]? = some k) : (zips l ks)[i]? = some (s, k) := by
  unfold zips
  rw [List.getElem?_zip_eq_some]
  exact ⟨hs, by rw [List.getElem?_drop, Nat.add_comm]; exact hk⟩
set_option maxRecDepth 100000 in
theorem size_sum {level : Int} {l : List (List UInt8)} {ks : List (Int × Int)} (h : Ok level l ks) : 4 + vl (Key.comAll l) + Key.comAll l + 2 * l.length + 8 + (cz (Key.comAll l) (zips l ks)).length = sizeS l := by
  have := usedB_length level l ks h.n
  unfold usedB frontB at this
  simp only [List.length_append, headB_length, sz_length, kidB_length] at this
  omega
set_option maxRecDepth 100000 in
theorem cell_fit {level : Int} {l : List (List UInt8)} {ks : List (Int × Int)} (h : Ok level l ks) (i : Nat) (s : List UInt8) (k : Int × Int) (hs : l[i]? = some s) (hk : ks[i + 1]? = some k) :
    4 + vl (Key.comAll l) + Key.comAll l + 2 * l.length + 8 + ((cz (Key.comAll l) ((zips l ks).take i)).length + (vl (s.length - Key.comAll l) + (s.length - Key.comAll l) + 8)) ≤ 4092 := by
  have h1 := size_sum h
  have h2 := h.size
  have h3 := cz_succ (Key.comAll l) (zips l ks) i _ (zips_get l ks i s k hs hk)
  have h4 : cz (Key.comAll l) (zips l ks) = cz (Key.comAll l) ((zips l ks).take (i + 1)) ++ cz (Key.comAll l) ((zips l ks).drop (i + 1)) := by rw [← cz_append, List.take_append_drop]
  rw [h3] at h4
  rw [h4] at h1
  simp only [List.length_append, cellB_length] at h1
  omega
set_option maxRecDepth 100000 in
theorem ok_few {level : Int} {l : List (List UInt8)} {ks : List (Int × Int)} (h : Ok level l ks) : Few l.length l :=
  ⟨by have := few_seps h; omega, fun x hx => by
    have := of_decide_eq_true (h.seps x hx)
    omega⟩
set_option maxRecDepth 100000 in
theorem lev_byte {level : Int} (h1 : 1 ≤ level) (h2 : level ≤ 15) : ∃ b : UInt8, level = (b.toNat : Int) ∧ UInt8.ofNat level.toNat = b ∧ b.toNat ≤ 15 := by
  have e : (UInt8.ofNat level.toNat).toNat = level.toNat := byte_ofNat (by omega)
  exact ⟨UInt8.ofNat level.toNat, by omega, rfl, by omega⟩
set_option maxRecDepth 100000 in
theorem copy_two (X Y : List UInt8) (h j : Nat) (hX : X.length = h) (hY : Y.length = j) :
    ((zeros 4092).take 0 ++ (X.take h ++ (zeros 4092).drop (0 + h))).take h ++ (Y.take j ++ ((zeros 4092).take 0 ++ (X.take h ++ (zeros 4092).drop (0 + h))).drop (h + j)) = X ++ Y ++ List.replicate (4092 - (h + j)) 0 := by
  rw [List.take_zero, List.nil_append, Nat.zero_add, List.take_of_length_le (l := X) (by omega), List.take_left' hX, List.take_of_length_le (l := Y) (by omega), ← List.drop_drop, List.drop_left' hX, List.drop_drop]
  unfold zeros
  rw [List.drop_replicate, List.append_assoc]

set_option maxRecDepth 100000 in
/-- append into the room of a block of which all bytes are known, as one step of a region that draws. -/
theorem stepW_app {w : World} {ops : Array Oper} {o : Oper} {a : Act} {K : Act → World → Prop} {Q : Exit → Act → World → Prop} {E : Prop} (hgd : o.guard = none) (s x : Operand) (ho : o.op = .call { callee := .builtin .append, args := #[s, x], argTypes := #[40, 40] })
    (g n c : Nat) (xs : List UInt8) (hs : a.eval s = .slice (some ⟨g, 0, none⟩) n c) (hown : OB w g c c xs)
    (A : Option Addr) (m k : Nat) (ys : List UInt8) (hx : a.eval x = .slice A m k) (hr : RB w A m k ys) (hm : 0 < m) (l : Nat) (hl : n + m = l) (hfit : l ≤ c)
    (h : ∀ w', OB w' g c c (xs.take n ++ (ys ++ xs.drop l)) → w.grownBy w' (some g) → K (a.put o.dst (.slice (some ⟨g, 0, none⟩) l c)) w') :
    if Region.wanted o (yielded ops a.tmps) = true then Oper.wp Tryz.prog o a w K Q else E := by
  have hw : Region.wanted o (yielded ops a.tmps) = true := by simp [Region.wanted, hgd]
  rw [if_pos hw]
  obtain ⟨i0, hi, hz0, hz1, hz2⟩ := info_parts info_u8
  obtain ⟨ad, rfl, hc⟩ := RC.drop0 hr hm
  obtain ⟨hlen, cur, hg, r1, r2, r3, r4⟩ := OC.block hown
  have hyl := hr.len
  have hxl := hown.len
  rw [Nat.mul_one] at r3
  have ecur : cur.toList = u8s xs := by rw [← r4, Nat.mul_one, List.take_of_length_le (by rw [Array.length_toList, r3]; exact Nat.le_refl _)]
  have hcl : cur.toList.length = c := by rw [Array.length_toList]; exact r3
  have hrun := run_append_room (P := Tryz.prog) w 40 o.type 5 i0 Tryz.underlying40 hi g n c cur hg ad m k (u8s ys) (by rw [hz1]; exact RC.len hr) hc (u8s_one ys) (by omega) (by rw [hz1, u8s_length, hyl]; omega)
  rw [hz1, Nat.mul_one, u8s_length, hyl, hl] at hrun
  unfold Oper.wp
  simp only [execOp, ho, resolve]
  simp [invoke, builtin, hs, hx, hrun, Result.andThen]
  refine h _ (OC.mk ?_ _ (setRow_heap w g cur _ 5 _ hg) (Nat.le_refl _) r2 ?_ ?_) ⟨rfl, rfl, rfl, by simp, fun q _ hq => setRow_other w g q _ (fun e => hq (by simp [e]))⟩
  · rw [u8s_length, Nat.mul_one]; simp only [List.length_append, List.length_take, List.length_drop, hyl, hxl]; omega
  · simp only [List.size_toArray, List.length_append, List.length_take, List.length_drop, hcl, u8s_length, hyl]; omega
  · have : (u8s (xs.take n ++ (ys ++ xs.drop l))).length ≤ c := by rw [u8s_length]; simp only [List.length_append, List.length_take, List.length_drop, hyl, hxl]; omega
    simp only [ecur, u8s_append, u8s_take, u8s_drop, Nat.mul_one] at this ⊢
    exact List.take_of_length_le this
set_option maxRecDepth 100000 in
theorem page_new (w : World) (Z : Array Value) (hZ : Z.toList = u8s (zeros 4092)) : OB (w.alloc (.cells Z 5)) w.heap.size 4092 4092 (zeros 4092) := by
  refine OC.mk (by rw [u8s_length, zeros_length]) _ (heap_alloc_new w _) (Nat.le_refl _) (by rw [maxLen_is]; omega) (by rw [← Array.length_toList, hZ, u8s_length, zeros_length]) ?_
  rw [hZ]
  exact List.take_of_length_le (by rw [u8s_length, zeros_length]; exact Nat.le_refl _)
set_option maxRecDepth 100000 in
theorem make_page : ∃ (Z : Array Value) (zs : List UInt8), Hid (zs.length = 4092) ∧ (∀ w : World, OB (w.alloc (.cells Z 5)) w.heap.size 4092 4092 zs) ∧ ∀ w, (Instr.makeSlice 40 (.int .i64 0) (.int .i64 4092)).run Tryz.prog w = .ok (.slice (some ⟨w.heap.size, 0, none⟩) 0 4092) (w.alloc (.cells Z 5)) := by
  obtain ⟨i0, hi, hz0, hz1, hz2⟩ := info_parts info_u8
  have e := (toList_madeCells_one (.int .u8 0) 4092).trans (u8s_zeros 4092).symm
  refine ⟨madeCells (Value.cells (.int .u8 0)) 4092, zeros 4092, zeros_length _, fun w => page_new w _ e, fun w => ?_⟩
  have hr := run_make (P := Tryz.prog) w 40 5 i0 (.int .u8 0) Tryz.underlying40 hi hz0 .i64 .i64 (0 : Nat) (4092 : Nat) (by omega) (by omega) (by rw [hz2]; omega) (by omega)
  simp only [Int.toNat_natCast] at hr
  rw [hz1, Nat.mul_one] at hr
  exact hr

set_option maxRecDepth 100000 in
set_option maxHeartbeats 2000000 in
theorem Encode_ok (level : Int) (A : Option Addr) (n c : Nat) (vs : List Value) (l : List (List UInt8)) (B : Option Addr) (m d : Nat) (ks : List (Int × Int)) (w : World) (h : RM w A n c vs l) (hk : RK w B m d ks) (hw : wrongS level l ks = 0) :
    Calls Tryz.prog 48 #[.int .i64 level, .slice A n c, .slice B m d] w fun e w' => ∃ g, e = .returned (.tuple #[.slice (some ⟨g, 0, none⟩) 4092 4092, .int .i64 0]) ∧ w.heap.size ≤ g ∧ OB w' g 4092 4092 (bodyB level l ks) ∧ Below w.heap.size w w' := by
  have hO := ok_of hw
  have hl := h.len
  have hf := ok_few hO
  rw [hl] at hf
  have nle := few_seps hO
  have hkl := hk.len
  have kn := hO.n
  have mk : m = n + 1 := by omega
  rw [hl] at nle
  have WR := fun W q q2 => wrong_calls level A n c vs l B m d ks W q hf q2
  rw [hw] at WR
  have CA := fun W q => CommonAll_calls A n c vs l W q
  have hfit := cell_fit hO
  have hsum := size_sum hO
  have hS := hO.size
  have hkid := hO.kids
  have hH := headB_length level l ks
  have hpre := fun s (hs : s ∈ l) => (pre_take l s hs)
  have hbody : bodyB level l ks = (headB level l ks ++ sz ((headB level l ks).length + 2 * l.length + 8) (Key.comAll l) (zips l ks) l.length) ++ (kidB (kid0 ks) ++ cz (Key.comAll l) (zips l ks)) ++ List.replicate (4092 - sizeS l) 0 := by
    unfold bodyB usedB frontB
    simp only [List.append_assoc]
  have hzl := zips_length l ks kn
  obtain ⟨b, hb1, hb2, hb3⟩ := lev_byte hO.l1 hO.l2
  have hT : headB level l ks = [2, b] ++ leB m 2 ++ vF 9 (Key.comAll l) ++ (l.headD []).take (Key.comAll l) := by unfold headB; rw [hb2, hkl]
  obtain ⟨S, eS⟩ : ∃ S, sizeS l = S := ⟨_, rfl⟩
  obtain ⟨T, eT⟩ : ∃ T, headB level l ks = T := ⟨_, rfl⟩
  obtain ⟨zs, eZ⟩ : ∃ zs, zips l ks = zs := ⟨_, rfl⟩
  have hzg := zips_get l ks
  rw [hl] at hsum hfit hbody hzl
  rw [hH] at hbody
  rw [eS] at hS hsum hbody
  rw [eT] at hT hH hbody
  rw [eZ] at hsum hfit hbody hzl hzg
  obtain ⟨p, ep⟩ : ∃ p, Key.comAll l = p := ⟨_, rfl⟩
  rw [ep] at hT hH hbody hsum hfit hpre CA
  have vb := (vl_bounds p).1
  obtain ⟨H, eH⟩ : ∃ H, 4 + vl p + p = H := ⟨_, rfl⟩
  rw [eH] at hH hbody hsum hfit
  obtain ⟨k0, hk0⟩ : ∃ k, ks[0]? = some k := ⟨_, List.getElem?_eq_getElem (by omega)⟩
  obtain ⟨x0, y0⟩ := k0
  have e0 : kid0 ks = (x0, y0) := by
    unfold kid0
    rw [List.headD_eq_head?_getD, List.head?_eq_getElem?, hk0]; rfl
  rw [e0] at hbody
  have ok0 := hkid _ (List.mem_of_getElem? hk0)
  have hp0 : n = 0 → l = [] := fun q => List.eq_nil_of_length_eq_zero (by omega)
  have pnil : n = 0 → p = 0 := fun q => by rw [← ep, hp0 q]; rfl
  rw [hbody]
  subst hb1
  have HT := hideIt hT
  have HH := hideIt hH
  have HSUM := hideIt hsum
  have HFIT := hideIt hfit
  have HPRE := hideIt hpre
  have HKID := hideIt hkid
  have HKG := hideIt hzg
  have EH := hideIt eH
  have HZL := hideIt hzl
  have HL := hideIt hl
  have HK := hideIt hkl
  have MK := hideIt mk
  have HP0 := hideIt hp0
  have PNIL := hideIt pnil
  have ESP := hideIt hO.seps
  have eb : IntKind.u8.wrap (b.toNat : Int) = (b.toNat : Int) := by rw [IntKind.wrap_u8]; omega
  have m0 : 0 < m := by omega
  have mle : m ≤ 373 := by omega
  have Hle : H + 2 * n + 8 ≤ 4092 := by omega
  have ple : p ≤ 4092 := by omega
  have Hpos : ¬ H = 0 := by omega
  obtain ⟨t, ht⟩ : ∃ t, decide (0 < n) = t := ⟨_, rfl⟩
  have HTT := hideIt ht
  clear hT hH hsum hfit hpre hkid hzg eH ht hzl hl hkl mk hp0 pnil hw hO hf kn hbody hb2
  go_enter Tryz.func48, Tryz.ntmps48
  go_upto_region 4 with (go_at_call 102; refine (WR _ h hk).mono ?_; rintro en w1 ⟨rfl, b1⟩)
  have h1 := h.below b1
  have hk1 := hk.below b1
  clear WR
  go_upto_region 5 with (with_reducible refine wpP_alloc rfl rfl ?_; intro g0 w2 s2 o2 k2)
  have b2 := b1.trans (below_of_grown k2 b1.size (by simp))
  have h2 := h1.below (below_of_grown k2 (Nat.le_refl _) (by simp))
  have hk2 := hk1.below (below_of_grown k2 (Nat.le_refl _) (by simp))
  have s0 := Nat.le_trans b1.size s2
  clear k2 b1 h1 hk1 s2
  go_upto_region 6 with (go_at_call 14; refine (CA _ h2).mono ?_; rintro en w3 ⟨rfl, x3⟩)
  have b3 := b2.trans (x3.mono b2.size)
  have h3 := h2.below x3
  have hk3 := hk2.below x3
  have o3 := o2.below x3
  clear CA x3 b2 h2 hk2 o2
  have lit := lit_read w3 [2, b] 2 (0, 0) 5 rfl (by decide)
  have ba := below1 w3 (.cells #[.int .u8 2, .int .u8 (b.toNat : Int)] 5)
  have h3a := h3.below ba
  have hk3a := hk3.below ba
  have o3a := o3.below ba
  have b3a := blw_step b3 ba
  go_upto_region 7 with (go_at_call 71; (refine (Put16_of 4 _ _ _ _ _ m _ lit rfl (by omega) (by first | rfl | omega | (rw [IntKind.wrap_u16]; omega)) (by omega)).mono ?_); rintro en w4 ⟨g4, c4, rfl, s4, o4, x4⟩)
  have b4 := blw_step b3a x4
  have h4 := h3a.below x4
  have hk4 := hk3a.below x4
  have o0 := o3a.below x4
  clear lit ba h3 hk3 o3 b3 x4 h3a hk3a o3a b3a s4
  go_upto_region 8 with (go_at_call 72; (refine (PutV_of (4 + vl p) _ _ _ _ _ p _ o4.read rfl (by omega) (by first | rfl | omega | (rw [IntKind.wrap_u64]; omega)) (by omega)).mono ?_); rintro en w5 ⟨g5, c5, rfl, s5, o5, x5⟩)
  have b5 := blw_step b4 x5
  have h5 := h4.below x5
  have hk5 := hk4.below x5
  have o5z := o0.below x5
  have l0 := o0.lt
  have g05 : g0 < g5 := Nat.lt_of_lt_of_le l0 s5
  have w5s : w.heap.size ≤ g5 := Nat.le_trans b4.size s5
  clear b4 h4 hk4 o0 o4 x5 s5 l0
  go_cut [38] from 36 to 38 (fun q wx => q = .bool t ∧ w5 = wx)
  case first =>
    go_wp2_with fail
    go_meet
    exact ⟨congrArg Value.bool HTT.out, rfl⟩
  case rest =>
  obtain ⟨rfl, rfl⟩ := hcut
  go_upto_if 38 with (fail)
  go_cut [11] from 39 to 45 (fun sv wx => ∃ g cc, sv = .slice (some ⟨g, 0, none⟩) H cc ∧ g0 < g ∧ w.heap.size ≤ g ∧ OB wx g H cc T ∧ ∃ w6, w6 = wx ∧ OC w6 128 1 g0 4092 4092 (u8s (zeros 4092)) ∧ Below w.heap.size w w6)
  case first =>
    cases t
    · have hn : n = 0 := by have := of_decide_eq_false HTT.out; omega
      have e1 := PNIL.out hn
      have e2 := HP0.out hn
      subst e2 e1
      subst hn
      have eT' : [2, b] ++ leB m 2 ++ vF 9 0 = T := by rw [HT.out]; simp
      have eH' : 4 + vl 0 = H := EH.out
      have EHH := hideIt eH'
      rw [eT'] at o5
      clear eT' eH'
      go_wp2
      go_meet
      exact ⟨g5, c5, by rw [EHH.out], g05, w5s, by rw [← EHH.out]; exact o5, _, rfl, o5z, b5⟩
    · have hn : 0 < n := of_decide_eq_true HTT.out
      obtain ⟨ad, A0, n0, c0, s, rfl, hs, cell, rs⟩ := h5.row 0 hn
      rw [Addr.add_zero'] at cell
      have pl := (HPRE.out s (List.mem_of_getElem? hs)).2
      have pn0 : p ≤ n0 := by rw [← rs.len]; exact pl
      have hd0 : l.headD [] = s := by rw [List.headD_eq_head?_getD, List.head?_eq_getElem?, hs]; rfl
      have eT' : [2, b] ++ leB m 2 ++ vF 9 p ++ s.take p = T := by rw [HT.out, hd0]
      have ET := hideIt eT'
      clear hd0 eT' hs pl
      have n0' : (0 : Int) < (n : Int) := by omega
      clear hn
      go_wp2_with (first
        | (with_reducible refine wpS_to rfl (.tmp 42) (.tmp 43) rfl _ _ _ _ rfl rs _ p rfl rfl pn0 ?_; intro q5)
        | (with_reducible refine wpB_app rfl (.tmp 39) (.tmp 44) rfl _ _ _ _ rfl o5 _ _ _ _ rfl q5 H EH.out (by omega) ?_; intro g6 c6 w6 q6 p6 o6 k6))
      have l0 := o5z.lt
      have ne : some g0 ≠ some g5 := by simp only [ne_eq, Option.some.injEq]; omega
      have o6z := o5z.same (Sm.of_grown k6 l0 ne)
      have b6 := blw_own b5 k6 b5.size w5s
      have g06 : g0 < g6 := by
        rcases q6 with rfl | q6
        · exact g05
        · exact Nat.lt_of_lt_of_le l0 q6
      have w6s : w.heap.size ≤ g6 := by
        rcases q6 with rfl | q6
        · exact w5s
        · exact Nat.le_trans b5.size q6
      go_meet
      exact ⟨g6, c6, rfl, g06, w6s, by rw [← ET.out]; exact o6, _, rfl, o6z, b6⟩
  case rest =>
  obtain ⟨g, cc, rfl, gg, gw, oT, w6, rfl, oz, bT⟩ := hcut
  clear h5 hk5 o5 o5z b5 g05 w5s eb
  have hk6 := hk.below bT
  obtain ⟨ad2, xq, yq, eB, -, -, -⟩ := hk.at_ 0 m0
  subst eB
  obtain ⟨kc1, kc2⟩ := RK.cells hk6 0 x0 y0 hk0
  rw [Nat.zero_mul, Addr.add_zero'] at kc1 kc2
  have i0 : (0 : Int) < (m : Int) := by omega
  have lT := oT.lt
  go_upto_region 12 with (go_at_call 103; (refine (putKid_calls 8 none 0 0 [] x0 y0 _ (RB.nil _) rfl (by omega) ok0).mono ?_); rintro en w7 ⟨g7, c7, rfl, s7, o7, x7⟩; rw [List.nil_append] at o7)
  have oT7 := oT.below x7
  have oz7 := oz.below x7
  have b7 := blw_step bT x7
  have g7l : g < g7 := Nat.lt_of_lt_of_le lT s7
  clear oT oz bT x7 s7 lT kc1 kc2 hk6 i0
  go_wp2
  go_loopw [11, 13, 58] (fun bb ccc ii wr => ∃ (i M ga ca gb cb : Nat), i ≤ n ∧ bb = .slice (some ⟨ga, 0, none⟩) (H + 2 * i) ca ∧ ccc = .slice (some ⟨gb, 0, none⟩) M cb ∧ ii = .int .i64 (i : Int) ∧ g0 < ga ∧ ga < gb ∧ w.heap.size ≤ ga ∧ Hid (M = 8 + (cz p (zs.take i)).length) ∧ OB wr ga (H + 2 * i) ca (T ++ sz (H + 2 * n + 8) p zs i) ∧ OB wr gb M cb (kidB (x0, y0) ++ cz p (zs.take i)) ∧ OC wr 128 1 g0 4092 4092 (u8s (zeros 4092)) ∧ w.heap.size ≤ g0 ∧ Below w.heap.size w wr)
    (fun _ _ ii _ => n - (intOf ii).toNat)
  case atStart => exact ⟨0, 8, g, cc, g7, c7, by omega, rfl, rfl, rfl, gg, g7l, gw, hideIt (by simp [cz]), by simpa [sz] using oT7, by simpa [cz] using o7, oz7, s0, b7⟩
  case round =>
    clear oT7 o7 oz7 b7 gg g7l gw
    obtain ⟨i, M, ga, ca, gb, cb, hi, rfl, rfl, rfl, gg, gab, gaw, HM, oa, ob, oz, gz, bw⟩ := hrel
    by_cases hlt : i < n
    · obtain ⟨ad, Ai, ni, ci, s, rfl, hs, cell, rs⟩ := (h.below bw).row i hlt
      obtain ⟨⟨x, y⟩, hxy⟩ : ∃ k, ks[i + 1]? = some k := ⟨_, List.getElem?_eq_getElem (by rw [HK.out, MK.out]; omega)⟩
      have okxy := HKID.out _ (List.mem_of_getElem? hxy)
      have fit := HFIT.out i s (x, y) hs hxy
      have pn : p ≤ ni := by rw [← rs.len]; exact (HPRE.out s (List.mem_of_getElem? hs)).2
      have c3 := cz_succ p zs i _ (HKG.out i s (x, y) hs hxy)
      unfold cellB at c3
      simp only at c3
      rw [rs.len] at fit c3
      obtain ⟨q, hq⟩ : ∃ q, ni - p = q := ⟨_, rfl⟩
      rw [hq] at fit c3
      have sc : sz (H + 2 * n + 8) p zs (i + 1) = sz (H + 2 * n + 8) p zs i ++ leB (H + 2 * n + M) 2 := by
        rw [sz_succ, show H + 2 * n + 8 + (cz p (zs.take i)).length = H + 2 * n + M by rw [HM.out]; omega]
      have Mb : H + 2 * n + M + (vl q + q + 8) ≤ 4092 := by rw [HM.out]; omega
      have HM2 : Hid (M + vl q + q + 8 = 8 + (cz p (zs.take (i + 1))).length) := hideIt (by
        rw [c3, HM.out]; simp only [List.length_append, kidB_length, List.length_drop, rs.len, hq]
        show _ = 8 + (_ + (vl q + _)); omega)
      have C3 := hideIt c3
      have SC := hideIt sc
      have lz := oz.lt
      have i1 : (i : Int) < (n : Int) := by omega
      have i2 : (i : Int) + 1 < (m : Int) := by rw [MK.out]; omega
      have i3 : (0 : Int) ≤ (i : Int) + 1 := by omega
      have i4 : ((i : Int) + 1).toNat = i + 1 := by omega
      have zq : (ni : Int) - (p : Int) = (q : Int) := by omega
      have ZQ := hideIt zq
      clear fit c3 sc hs zq
      go_wp2_with (first
        | (with_reducible refine wpS_from rfl (.tmp 78) (.tmp 79) rfl _ _ _ _ rfl rs2 _ p q rfl rfl pn hq ?_; intro A3 e3 r3)
        | (with_reducible refine wpB_app rfl (.tmp 77) (.tmp 80) rfl _ _ _ _ rfl o2 _ _ _ _ rfl r3 (M + vl q + q) rfl (by omega) ?_; intro g4 e4 w4 q4 p4 o4 k4; have b4 := blw_own b2 k4 b2.size ws2; obtain ⟨kc1, kc2⟩ := RK.cells (hk.below b4) (i + 1) x y hxy)
        | (go_at_call 71; (refine (Put16_of (H + 2 * (i + 1)) _ _ _ _ _ (H + 2 * n + M) _ oa.read (by omega) (by omega) (by first | (push_cast; rfl) | (push_cast; omega) | (rw [IntKind.wrap_u16]; push_cast; omega)) (by omega)).mono ?_); rintro en w1 ⟨g1, e1, rfl, s1, o1, x1⟩; have ob1 := ob.below x1; have rs1 := rs.below x1; have b1 := blw_step bw x1; have oz1 := oz.below x1; have lt1 := o1.lt)
        | (go_at_call 72; (refine (PutV_of (M + vl q) _ _ _ _ _ q _ ob1.read rfl (by omega) (by first | exact ZQ.out | (rw [ZQ.out, IntKind.wrap_u64]; omega)) (by omega)).mono ?_); rintro en w2 ⟨g2, e2, rfl, s2, o2, x2⟩; have rs2 := rs1.below x2; have b2 := blw_step b1 x2; have oz2 := oz1.below x2; have oa2 := o1.below x2; have g12 := Nat.lt_of_lt_of_le lt1 s2; have ws2 := Nat.le_trans b1.size s2)
        | (go_at_call 103; (refine (putKid_calls (M + vl q + q + 8) _ _ _ _ x y _ o4.read rfl (by omega) okxy).mono ?_); rintro en w5 ⟨g5, e5, rfl, s5, o5, x5⟩))
      go_roundw
      case rel =>
        have ne : some g1 ≠ some g2 := by simp only [ne_eq, Option.some.injEq]; omega
        have oa4 := oa2.same (Sm.of_grown k4 oa2.lt ne)
        have ne0 : some g0 ≠ some g2 := by simp only [ne_eq, Option.some.injEq]; omega
        have oz4 := oz2.same (Sm.of_grown k4 oz2.lt ne0)
        have g14 := oa4.lt
        have eo : kidB (x0, y0) ++ cz p (zs.take i) ++ vF 9 q ++ s.drop p ++ kidB (x, y) = kidB (x0, y0) ++ cz p (zs.take (i + 1)) := by rw [C3.out]; simp only [List.append_assoc]
        have ea : T ++ sz (H + 2 * n + 8) p zs i ++ leB (H + 2 * n + M) 2 = T ++ sz (H + 2 * n + 8) p zs (i + 1) := by rw [SC.out, List.append_assoc]
        rw [eo] at o5
        rw [ea] at oa4
        exact ⟨i + 1, M + vl q + q + 8, g1, e1, g5, e5, by omega, rfl, rfl, by go_num, Nat.lt_of_lt_of_le lz s1, Nat.lt_of_lt_of_le g14 s5, Nat.le_trans bw.size s1, HM2, oa4.below x5, o5, oz4.below x5, gz, blw_step b4 x5⟩
      case measure => simp [intOf]; omega
    · obtain rfl : n = i := by omega
      have hz : zs.take n = zs := List.take_of_length_le (by rw [HZL.out]; exact Nat.le_refl _)
      rw [hz] at HM ob
      have SM : S = H + 2 * n + M := by have := HSUM.out; rw [HM.out]; omega
      have SF : H + 2 * n + M ≤ 4092 := by omega
      have F0 : ¬ H + 2 * n = 0 := by omega
      have F4 : ¬ 4092 = H + 2 * n := by
        have := HM.out
        omega
      have fin := copy_two _ _ _ _ oa.len ob.len
      have e4 : 4092 - (H + 2 * n + M) = 4092 - S := by rw [SM]
      rw [e4] at fin
      generalize eX : T ++ sz (H + 2 * n + 8) p zs n = X at oa fin
      generalize eY : kidB (x0, y0) ++ cz p zs = Y at ob fin
      have EX := hideIt eX
      have EY := hideIt eY
      have FIN := hideIt fin
      generalize H + 2 * n = F at oa SF F0 F4 FIN ⊢
      clear hz SM e4 eX eY hlt hi Hle fin
      have Fle : F ≤ 4092 := by omega
      have i1 : (F : Int) ≤ 4092 := by omega
      go_upto_region 21 with (first
        | (with_reducible refine wpE_copy rfl (.tmp 97) (.tmp 98) rfl _ _ _ rfl _ _ _ rfl 128 g0 4092 4092 F _ Y o8 ob8 M (by omega) (fun _ => rfl) (by omega) ?_; intro w9 o9 k9)
        | (with_reducible refine wpE_copy rfl (.tmp 94) (.tmp 95) rfl _ _ _ rfl _ _ _ rfl 128 g0 4092 4092 0 _ X oz oa.read F (by omega) (fun _ => rfl) (by omega) ?_; intro w8 o8 k8; have ob8 := (ob.same (Sm.of_grown k8 ob.lt (show some gb ≠ some g0 by simp only [ne_eq, Option.some.injEq]; omega))).read))
      rw [FIN.out] at o9
      have b8 := blw_own bw k8 bw.size gz
      have b9 := blw_own b8 k9 b8.size gz
      obtain ⟨Z, zs0, LZ, hZ, MK2⟩ := make_page
      have hZl : OB (w9.drew.alloc (.cells Z 5)) w9.heap.size 4092 4092 zs0 := hZ w9.drew
      have ba := (drew1 w9).trans (below1 w9.drew (.cells Z 5))
      have oy := (o9.below ba).read
      have b10 := blw_step b9 ba
      have gs : w.heap.size ≤ w9.heap.size := Nat.le_trans b9.size (Nat.le_refl _)
      clear FIN oz oa ob ob8 o8 k8 k9 b8 b9 bw o9 ba hZ
      go_region_law (refine stepW_app rfl (.tmp 100) (.tmp 101) rfl _ _ _ _ rfl hZl _ _ _ _ rfl oy (by decide) 4092 (by decide) (by decide) ?_; intro w11 o11 k11)
      rw [List.take_zero, List.nil_append, List.drop_of_length_le (Nat.le_of_eq LZ.out), List.append_nil] at o11
      have b11 := blw_own b10 k11 b10.size gs
      clear MK2 hZl oy b10 k11
      go_wp2
      go_ret2
      exact ⟨_, rfl, gs, by rw [EX.out, EY.out]; exact o11, b11⟩
end Go.Proofs.YtmeakhiiebeneaaGreatDoor
/- branch.Encode of anything. -/
namespace Go.Proofs.YtmeakhiiebeneaaGreatDoor
open Go.RowKit

set_option maxRecDepth 100000 in
set_option maxHeartbeats 1000000 in
theorem Encode_no (level : Int) (A : Option Addr) (n c : Nat) (vs : List Value) (l : List (List UInt8)) (B : Option Addr) (m d : Nat) (ks : List (Int × Int)) (w : World) (h : RM w A n c vs l) (hf : Few n l) (hk : RK w B m d ks) (hw : wrongS level l ks ≠ 0) :
    Calls Tryz.prog 48 #[.int .i64 level, .slice A n c, .slice B m d] w fun e w' => e = .returned (.tuple #[.slice none 0 0, .int .i64 (wrongS level l ks)]) ∧ Below w.heap.size w w' := by
  have WR := wrong_calls level A n c vs l B m d ks w h hf hk
  generalize wrongS level l ks = z at *
  go_enter Tryz.func48, Tryz.ntmps48
  go_wp2_with (go_at_call 102; refine WR.mono ?_; rintro en w1 ⟨rfl, b1⟩)
  go_ret2
  exact ⟨rfl, b1⟩
set_option maxRecDepth 100000 in
theorem Encode_calls (level : Int) (A : Option Addr) (n c : Nat) (vs : List Value) (l : List (List UInt8)) (B : Option Addr) (m d : Nat) (ks : List (Int × Int)) (w : World) (h : RM w A n c vs l) (hf : Few n l) (hk : RK w B m d ks) :
    Calls Tryz.prog 48 #[.int .i64 level, .slice A n c, .slice B m d] w fun e w' => ∃ (A' : Option Addr) (n' : Nat), e = .returned (.tuple #[.slice A' n' n', .int .i64 (encB level l ks).2]) ∧ GB w' w.heap.size A' n' n' (encB level l ks).1 ∧ Below w.heap.size w w' := by
  by_cases hw : wrongS level l ks = 0
  · refine (Encode_ok level A n c vs l B m d ks w h hk hw).mono ?_
    rintro e w' ⟨g, rfl, h1, h2, h3⟩
    unfold encB
    rw [if_pos hw]
    exact ⟨_, _, rfl, GB.of h2 h1, h3⟩
  · refine (Encode_no level A n c vs l B m d ks w h hf hk hw).mono ?_
    rintro e w' ⟨rfl, h3⟩
    unfold encB
    rw [if_neg hw]
    exact ⟨none, 0, rfl, GB.none_ _ _, h3⟩
end Go.Proofs.YtmeakhiiebeneaaGreatDoor
