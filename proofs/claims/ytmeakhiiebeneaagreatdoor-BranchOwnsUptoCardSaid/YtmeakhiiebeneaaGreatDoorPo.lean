/- coppiceref5.lay. -/
import Derived.Test.YtmeakhiiebeneaaGreatDoorNC
import Derived.Test.YtmeakhiiebeneaaGreatDoorPe
namespace Go.Proofs.YtmeakhiiebeneaaGreatDoor
open Go.RowKit

set_option maxRecDepth 100000 in
theorem refPut2_of (l : Nat) (A : Option Addr) (n c : Nat) (xs : List UInt8) (z : Int) (x : Nat) (w : World) (hx : RB w A n c xs) (hl : n + 2 = l) (hb : n ≤ 1000000) (hz : z = (x : Int)) (hxx : x < 65536) :
    Calls Tryz.prog 174 #[.slice A n c, .int .u64 z, .int .i64 2] w fun e w' => ∃ g c', e = .returned (.slice (some ⟨g, 0, none⟩) l c') ∧ w.heap.size ≤ g ∧ OB w' g l c' (xs ++ leB x 2) ∧ Below w.heap.size w w' := by
  subst hl hz
  exact refPut_calls A n c xs x 2 w hx (by omega) (by omega) (by omega)
set_option maxRecDepth 100000 in
theorem refPutV_of (l : Nat) (A : Option Addr) (n c : Nat) (xs : List UInt8) (z : Int) (x : Nat) (w : World) (hx : RB w A n c xs) (hl : n + vl x = l) (hb : n ≤ 1000000) (hz : z = (x : Int)) (hxx : x ≤ 1000000) :
    Calls Tryz.prog 175 #[.slice A n c, .int .u64 z] w fun e w' => ∃ g c', e = .returned (.slice (some ⟨g, 0, none⟩) l c') ∧ w.heap.size ≤ g ∧ OB w' g l c' (xs ++ vF 9 x) ∧ Below w.heap.size w w' := by
  subst hz
  have hn := hx.len
  refine (refPutV_calls A n c xs x w hx (by omega) (by omega)).mono ?_
  rintro e w' ⟨g, m, c', rfl, s, o, b⟩
  have := o.len
  rw [List.length_append, hn] at this
  obtain rfl : l = m := by rw [← hl, ← this]; rfl
  exact ⟨g, c', rfl, s, o, b⟩
set_option maxRecDepth 100000 in
theorem lay_copy (X : List UInt8) (S : Nat) (hX : X.length = S) : (zeros 4092).take 0 ++ (X.take S ++ (zeros 4092).drop (0 + S)) = X ++ List.replicate (4092 - S) 0 := by
  rw [List.take_zero, List.nil_append, Nat.zero_add, List.take_of_length_le (by omega)]
  unfold zeros
  rw [List.drop_replicate]

set_option maxRecDepth 100000 in
set_option maxHeartbeats 2000000 in
theorem lay_calls (level : Int) (A : Option Addr) (n c : Nat) (vs : List Value) (l : List (List UInt8)) (B : Option Addr) (m d : Nat) (ks : List (Int × Int)) (w : World) (h : RM w A n c vs l) (hk : RK w B m d ks) (hw : wrongS level l ks = 0) :
    Calls Tryz.prog 100 #[.int .i64 level, .slice A n c, .slice B m d] w fun e w' => ∃ g, e = .returned (.slice (some ⟨g, 0, none⟩) 4092 4092) ∧ w.heap.size ≤ g ∧ OB w' g 4092 4092 (bodyB level l ks) ∧ Below w.heap.size w w' := by
  have hO := ok_of hw
  have hl := h.len
  have nle := few_seps hO
  have hkl := hk.len
  have kn := hO.n
  have mk : m = n + 1 := by omega
  rw [hl] at nle
  have CA := fun W q => Prefix_calls A n c vs l W q
  have hfit := cell_fit hO
  have hsum := size_sum hO
  have hS := hO.size
  have hkid := hO.kids
  have hH := headB_length level l ks
  have hpre := fun s (hs : s ∈ l) => (pre_take l s hs)
  have hbody : bodyB level l ks = (headB level l ks ++ sz ((headB level l ks).length + 2 * l.length + 8) (Key.comAll l) (zips l ks) l.length ++ kidB (kid0 ks) ++ cz (Key.comAll l) (zips l ks)) ++ List.replicate (4092 - sizeS l) 0 := by
    unfold bodyB usedB frontB
    rfl
  have hzl := zips_length l ks kn
  obtain ⟨b, hb1, hb2, hb3⟩ := lev_byte hO.l1 hO.l2
  have hT : headB level l ks = [2, b] ++ leB m 2 ++ vF 9 (Key.comAll l) ++ (l.headD []).take (Key.comAll l) := by unfold headB; rw [hb2, hkl]
  obtain ⟨S, eS⟩ : ∃ S, sizeS l = S := ⟨_, rfl⟩
  obtain ⟨T, eT⟩ : ∃ T, headB level l ks = T := ⟨_, rfl⟩
  obtain ⟨zs, eZ⟩ : ∃ zs, zips l ks = zs := ⟨_, rfl⟩
  have hzg := zips_get l ks
  rw [hl] at hsum hfit hbody hzl
  rw [hH] at hbody
  rw [eS] at hS hsum hbody
  rw [eT] at hT hH hbody
  rw [eZ] at hsum hfit hbody hzl hzg
  obtain ⟨p, ep⟩ : ∃ p, Key.comAll l = p := ⟨_, rfl⟩
  rw [ep] at hT hH hbody hsum hfit hpre CA
  have vb := (vl_bounds p).1
  obtain ⟨H, eH⟩ : ∃ H, 4 + vl p + p = H := ⟨_, rfl⟩
  rw [eH] at hH hbody hsum hfit
  obtain ⟨k0, hk0⟩ : ∃ k, ks[0]? = some k := ⟨_, List.getElem?_eq_getElem (by omega)⟩
  obtain ⟨x0, y0⟩ := k0
  have e0 : kid0 ks = (x0, y0) := by
    unfold kid0
    rw [List.headD_eq_head?_getD, List.head?_eq_getElem?, hk0]; rfl
  rw [e0] at hbody
  have ok0 := hkid _ (List.mem_of_getElem? hk0)
  have hp0 : n = 0 → l = [] := fun q => List.eq_nil_of_length_eq_zero (by omega)
  have pnil : n = 0 → p = 0 := fun q => by rw [← ep, hp0 q]; rfl
  rw [hbody]
  subst hb1
  have HT := hideIt hT
  have HSUM := hideIt hsum
  have HFIT := hideIt hfit
  have HPRE := hideIt hpre
  have HKID := hideIt hkid
  have HKG := hideIt hzg
  have EH := hideIt eH
  have HZL := hideIt hzl
  have HL := hideIt hl
  have HK := hideIt hkl
  have MK := hideIt mk
  have HP0 := hideIt hp0
  have PNIL := hideIt pnil
  have eb : IntKind.u8.wrap (b.toNat : Int) = (b.toNat : Int) := by rw [IntKind.wrap_u8]; omega
  have m0 : 0 < m := by omega
  have mle : m ≤ 373 := by omega
  have Hle : H + 2 * n + 8 ≤ 4092 := by omega
  have ple : p ≤ 4092 := by omega
  obtain ⟨t, ht⟩ : ∃ t, decide (0 < n) = t := ⟨_, rfl⟩
  have HTT := hideIt ht
  clear hT hH hsum hfit hpre hkid hzg eH ht hzl hl hkl mk hp0 pnil hw hO kn hbody hb2
  go_enter Tryz.func100, Tryz.ntmps100
  go_upto_region 2 with (go_at_call 172; refine (CA _ h).mono ?_; rintro en w1 ⟨rfl, j1, rfl⟩)
  have b1 := below_drewN (Below.refl w.heap.size w) j1
  generalize w.drewN j1 = w3 at b1 ⊢
  have lit := lit_read w3 [2, b] 2 (0, 0) 5 rfl (by decide)
  have ba := below1 w3 (.cells #[.int .u8 2, .int .u8 (b.toNat : Int)] 5)
  have b3a := blw_step b1 ba
  clear CA ba b1
  go_upto_region 4 with (go_at_call 174; (refine (refPut2_of 4 _ _ _ _ _ m _ lit rfl (by omega) (by first | rfl | omega | (rw [IntKind.wrap_u64]; omega)) (by omega)).mono ?_); rintro en w4 ⟨g4, c4, rfl, s4, o4, x4⟩)
  have b4 := blw_step b3a x4
  clear lit b3a x4 s4
  go_upto_region 5 with (go_at_call 175; (refine (refPutV_of (4 + vl p) _ _ _ _ _ p _ o4.read rfl (by omega) (by first | rfl | omega | (rw [IntKind.wrap_u64]; omega)) (by omega)).mono ?_); rintro en w5 ⟨g5, c5, rfl, s5, o5, x5⟩)
  have b5 := blw_step b4 x5
  have h5 := h.below b5
  have w5s : w.heap.size ≤ g5 := Nat.le_trans b4.size s5
  clear b4 o4 x5 s5
  go_cut [29] from 27 to 29 (fun q wx => q = .bool t ∧ w5 = wx)
  case first =>
    go_wp2_with fail
    go_meet
    exact ⟨congrArg Value.bool HTT.out, rfl⟩
  case rest =>
  obtain ⟨rfl, rfl⟩ := hcut
  go_upto_if 29 with (fail)
  go_cut [8] from 30 to 36 (fun sv wx => ∃ g cc, sv = .slice (some ⟨g, 0, none⟩) H cc ∧ ∃ w6, w6 = wx ∧ OB w6 g H cc T ∧ Below w.heap.size w w6)
  case first =>
    cases t
    · have hn : n = 0 := by have := of_decide_eq_false HTT.out; omega
      have e1 := PNIL.out hn
      have e2 := HP0.out hn
      subst e2 e1
      subst hn
      have eT' : [2, b] ++ leB m 2 ++ vF 9 0 = T := by rw [HT.out]; simp
      have eH' : 4 + vl 0 = H := EH.out
      have EHH := hideIt eH'
      rw [eT'] at o5
      clear eT' eH'
      go_wp2
      go_meet
      exact ⟨g5, c5, by rw [EHH.out], _, rfl, by rw [← EHH.out]; exact o5, b5⟩
    · have hn : 0 < n := of_decide_eq_true HTT.out
      obtain ⟨ad, A0, n0, c0, s, rfl, hs, cell, rs⟩ := h5.row 0 hn
      rw [Addr.add_zero'] at cell
      have pl := (HPRE.out s (List.mem_of_getElem? hs)).2
      have pn0 : p ≤ n0 := by rw [← rs.len]; exact pl
      have hd0 : l.headD [] = s := by rw [List.headD_eq_head?_getD, List.head?_eq_getElem?, hs]; rfl
      have eT' : [2, b] ++ leB m 2 ++ vF 9 p ++ s.take p = T := by rw [HT.out, hd0]
      have ET := hideIt eT'
      have n0' : (0 : Int) < (n : Int) := by omega
      clear hd0 eT' hs pl hn
      go_wp2_with (first
        | (with_reducible refine wpS_to rfl (.tmp 33) (.tmp 34) rfl _ _ _ _ rfl rs _ p rfl rfl pn0 ?_; intro q5)
        | (with_reducible refine wpB_app rfl (.tmp 30) (.tmp 35) rfl _ _ _ _ rfl o5 _ _ _ _ rfl q5 H EH.out (by omega) ?_; intro g6 c6 w6 q6 p6 o6 k6))
      have b6 := blw_own b5 k6 b5.size w5s
      go_meet
      exact ⟨g6, c6, rfl, _, rfl, by rw [← ET.out]; exact o6, b6⟩
  case rest =>
  obtain ⟨g, cc, rfl, w6, rfl, oT, bT⟩ := hcut
  clear h5 o5 b5 w5s eb
  obtain ⟨ad2, xq, yq, eB, -, -, -⟩ := hk.at_ 0 m0
  subst eB
  have rT := oT.read
  clear oT
  go_wp2
  go_loopw [8, 9, 11] (fun bb ccc ii wr => ∃ (i M ca cb : Nat) (Aa Ab : Option Addr), i ≤ n ∧ bb = .slice Aa (H + 2 * i) ca ∧ ccc = .slice Ab M cb ∧ ii = .int .i64 (i : Int) ∧ Hid (M = (cz p (zs.take i)).length) ∧ RB wr Aa (H + 2 * i) ca (T ++ sz (H + 2 * n + 8) p zs i) ∧ RB wr Ab M cb (cz p (zs.take i)) ∧ Below w.heap.size w wr)
    (fun _ _ ii _ => n - (intOf ii).toNat)
  case atStart => exact ⟨0, 0, _, 0, _, none, by omega, rfl, rfl, rfl, hideIt (by simp [cz]), by simpa [sz] using rT, by simpa [cz] using RB.nil _, bT⟩
  case round =>
    clear rT bT
    obtain ⟨i, M, ca, cb, Aa, Ab, hi, rfl, rfl, rfl, HM, ra, rb, bw⟩ := hrel
    by_cases hlt : i < n
    · obtain ⟨ad, Ai, ni, ci, s, rfl, hs, cell, rs⟩ := (h.below bw).row i hlt
      obtain ⟨⟨x, y⟩, hxy⟩ : ∃ k, ks[i + 1]? = some k := ⟨_, List.getElem?_eq_getElem (by rw [HK.out, MK.out]; omega)⟩
      have okxy := HKID.out _ (List.mem_of_getElem? hxy)
      have fit := HFIT.out i s (x, y) hs hxy
      have pn : p ≤ ni := by rw [← rs.len]; exact (HPRE.out s (List.mem_of_getElem? hs)).2
      have c3 := cz_succ p zs i _ (HKG.out i s (x, y) hs hxy)
      unfold cellB at c3
      simp only at c3
      rw [rs.len] at fit c3
      obtain ⟨q, hq⟩ : ∃ q, ni - p = q := ⟨_, rfl⟩
      rw [hq] at fit c3
      have sc : sz (H + 2 * n + 8) p zs (i + 1) = sz (H + 2 * n + 8) p zs i ++ leB (H + 2 * n + 8 + M) 2 := by
        rw [sz_succ, HM.out]
      have Mb : H + 2 * n + 8 + (M + (vl q + q + 8)) ≤ 4092 := by rw [HM.out]; omega
      have HM2 : Hid (M + vl q + q + 8 = (cz p (zs.take (i + 1))).length) := hideIt (by
        rw [c3, HM.out]; simp only [List.length_append, kidB_length, List.length_drop, rs.len, hq]
        show _ = (_ + (vl q + _)); omega)
      have C3 := hideIt c3
      have SC := hideIt sc
      have i1 : (i : Int) < (n : Int) := by omega
      have i2 : (i : Int) + 1 < (m : Int) := by rw [MK.out]; omega
      have i3 : (0 : Int) ≤ (i : Int) + 1 := by omega
      have i4 : ((i : Int) + 1).toNat = i + 1 := by omega
      have zq : (ni : Int) - (p : Int) = (q : Int) := by omega
      have ZQ := hideIt zq
      have lc := World.block_lt_of_cell? wr _ cell
      clear fit c3 sc hs zq
      go_upto_region 13 with (go_at_call 174; (refine (refPut2_of (H + 2 * (i + 1)) _ _ _ _ _ (H + 2 * n + 8 + M) _ ra (by omega) (by omega) (by first | (push_cast; rfl) | (push_cast; omega) | (rw [IntKind.wrap_u64]; push_cast; omega)) (by omega)).mono ?_); rintro en w1 ⟨g1, e1, rfl, s1, o1, x1⟩)
      have rb1 := rb.below x1
      have rs1 := rs.below x1
      have b1 := blw_step bw x1
      have lt1 := o1.lt
      have cell1 := (x1.cell (p := ad.add i) lc).trans cell
      have lc1 := Nat.lt_of_lt_of_le lc x1.size
      clear ra rb rs bw cell lc x1 s1
      go_upto_region 14 with (go_at_call 175; (refine (refPutV_of (M + vl q) _ _ _ _ _ q _ rb1 rfl (by omega) (by first | exact ZQ.out | (rw [ZQ.out, IntKind.wrap_u64]; omega)) (by omega)).mono ?_); rintro en w2 ⟨g2, e2, rfl, s2, o2, x2⟩)
      have rs2 := rs1.below x2
      have b2 := blw_step b1 x2
      have oa2 := o1.below x2
      have g12 := Nat.lt_of_lt_of_le lt1 s2
      have ws2 := Nat.le_trans b1.size s2
      have cell2 := (x2.cell (p := ad.add i) lc1).trans cell1
      clear rb1 rs1 b1 lt1 cell1 lc1 x2 s2 o1
      go_upto_region 15 with (first
        | (with_reducible refine wpS_from rfl (.tmp 71) (.tmp 72) rfl _ _ _ _ rfl rs2 _ p q rfl rfl pn hq ?_; intro A3 e3 r3)
        | (with_reducible refine wpB_app rfl (.tmp 67) (.tmp 73) rfl _ _ _ _ rfl o2 _ _ _ _ rfl r3 (M + vl q + q) rfl (by omega) ?_; intro g4 e4 w4 q4 p4 o4 k4))
      have b4 := blw_own b2 k4 b2.size ws2
      obtain ⟨kc1, kc2⟩ := RK.cells (hk.below b4) (i + 1) x y hxy
      have ne : some g1 ≠ some g2 := by simp only [ne_eq, Option.some.injEq]; omega
      have oa4 := oa2.same (Sm.of_grown k4 oa2.lt ne)
      clear rs2 b2 oa2 g12 ws2 cell2 o2 r3 k4 q4 p4 ne
      go_wp2_with (go_at_call 176; (refine (two_calls (M + vl q + q + 8) _ _ _ _ x y _ o4.read rfl (by omega) okxy).mono ?_); rintro en w5 ⟨g5, e5, rfl, s5, o5, x5⟩)
      have eo : cz p (zs.take i) ++ vF 9 q ++ s.drop p ++ kidB (x, y) = cz p (zs.take (i + 1)) := by rw [C3.out]; simp only [List.append_assoc]
      have ea : T ++ sz (H + 2 * n + 8) p zs i ++ leB (H + 2 * n + 8 + M) 2 = T ++ sz (H + 2 * n + 8) p zs (i + 1) := by rw [SC.out, List.append_assoc]
      rw [eo] at o5
      rw [ea] at oa4
      have oa5 := oa4.below x5
      have b5 := blw_step b4 x5
      clear eo ea
      go_roundw
      case rel => exact ⟨i + 1, M + vl q + q + 8, e1, e5, _, _, by omega, rfl, rfl, by go_num, HM2, oa5.read, o5.read, b5⟩
      case measure => simp [intOf]; omega
    · obtain rfl : n = i := by omega
      have hz : zs.take n = zs := List.take_of_length_le (by rw [HZL.out]; exact Nat.le_refl _)
      rw [hz] at HM rb
      have SM : S = H + 2 * n + 8 + M := by have := HSUM.out; rw [HM.out]; omega
      have hk1 := hk.below bw
      obtain ⟨kc1, kc2⟩ := RK.cells hk1 0 x0 y0 hk0
      rw [Nat.zero_mul, Addr.add_zero'] at kc1 kc2
      have i0 : (0 : Int) < (m : Int) := by omega
      generalize eX : T ++ sz (H + 2 * n + 8) p zs n = X at ra
      generalize eY : cz p zs = Y at rb
      have EX := hideIt eX
      have EY := hideIt eY
      have SMM := hideIt SM
      have Sle : H + 2 * n + 8 + M ≤ 4092 := by omega
      clear hz eX eY SM hk1
      go_upto_region 17 with (go_at_call 176; (refine (two_calls (H + 2 * n + 8) _ _ _ _ x0 y0 _ ra rfl (by omega) ok0).mono ?_); rintro en w1 ⟨g1, e1, rfl, s1, o1, x1⟩)
      have rb1 := rb.below x1
      have b1 := blw_step bw x1
      have ws1 := Nat.le_trans bw.size s1
      clear ra rb bw x1 s1 kc1 kc2
      go_upto_region 18 with (with_reducible refine wpB_app rfl (.tmp 87) (.tmp 88) rfl _ _ _ _ rfl o1 _ _ _ _ rfl rb1 (H + 2 * n + 8 + M) rfl (by omega) ?_; intro g2 e2 w2 q2 p2 o2 k2)
      have b2 := blw_own b1 k2 b1.size ws1
      clear rb1 o1 b1 k2 q2 p2 ws1
      go_upto_region 19 with (at_make; refine wpB_full rfl _ _ rfl _ _ _ _ 4092 rfl rfl rfl rfl (by omega) ?_; intro g3 w3' s3 o3 k3)
      have r3 := o2.read.below (below_of_grown k3 (Nat.le_refl _) (by simp))
      have b3 := blw_step b2 (below_of_grown k3 (Nat.le_refl _) (by simp))
      have ws3 := Nat.le_trans b2.size s3
      clear o2 b2 k3 s3
      have LC := hideIt (lay_copy _ _ r3.len)
      go_wp2_with (with_reducible refine wpB_copy rfl (.tmp 91) (.tmp 92) rfl _ _ _ rfl _ _ _ rfl g3 4092 4092 0 _ _ o3 r3 (H + 2 * n + 8 + M) (by omega) (fun _ => rfl) (by omega) ?_; intro w4' o4 k4)
      rw [LC.out] at o4
      have b4 := blw_own b3 k4 b3.size ws3
      go_ret
      exact ⟨g3, rfl, ws3, by rw [EX.out, EY.out, SMM.out]; exact o4, b4⟩
end Go.Proofs.YtmeakhiiebeneaaGreatDoor
/- coppiceref5.Encode. -/
namespace Go.Proofs.YtmeakhiiebeneaaGreatDoor
open Go.RowKit

def EncOut (w : World) (level : Int) (l : List (List UInt8)) (ks : List (Int × Int)) (e : Ending) (w' : World) : Prop :=
  ∃ (A' : Option Addr) (n' : Nat), e = .returned (.tuple #[.slice A' n' n', .int .i64 (encB level l ks).2]) ∧ GB w' w.heap.size A' n' n' (encB level l ks).1 ∧ Below w.heap.size w w'
set_option maxRecDepth 100000 in
theorem EncOut.no {w w' : World} {level : Int} {l : List (List UInt8)} {ks : List (Int × Int)} (z : Int) (hz : z ≠ 0) (hw : wrongS level l ks = z) (b : Below w.heap.size w w') : EncOut w level l ks (.returned (.tuple #[.slice none 0 0, .int .i64 z])) w' := by
  unfold EncOut encB
  rw [if_neg (by rw [hw]; exact hz), hw]
  exact ⟨none, 0, rfl, GB.none_ _ _, b⟩
set_option maxRecDepth 100000 in
theorem EncOut.ok {w w' : World} {level : Int} {l : List (List UInt8)} {ks : List (Int × Int)} {g : Nat} (hw : wrongS level l ks = 0) (o : OB w' g 4092 4092 (bodyB level l ks)) (hg : w.heap.size ≤ g) (b : Below w.heap.size w w') : EncOut w level l ks (.returned (.tuple #[.slice (some ⟨g, 0, none⟩) 4092 4092, .int .i64 0])) w' := by
  unfold EncOut encB
  rw [if_pos hw]
  exact ⟨_, _, rfl, GB.of o hg, b⟩

set_option maxRecDepth 100000 in
set_option maxHeartbeats 8000000 in
theorem refEncode_calls (level : Int) (A : Option Addr) (n c : Nat) (vs : List Value) (l : List (List UInt8)) (B : Option Addr) (m d : Nat) (ks : List (Int × Int)) (w : World) (h : RM w A n c vs l) (hf : Few n l) (hk : RK w B m d ks) :
    Calls Tryz.prog 45 #[.int .i64 level, .slice A n c, .slice B m d] w (EncOut w level l ks) := by
  have HL := hideIt h.len
  have HK := hideIt hk.len
  have n7 := hf.n
  have mk := hk.max
  by_cases hsh : shape level l.length ks.length = true
  · have hwr := wrong_wr hsh
    have q := shape_iff.1 hsh
    rw [HL.out, HK.out] at q
    obtain ⟨q1, q2, q3, q4⟩ := q
    obtain ⟨r1, hr1⟩ : ∃ r, ks.all kidOk = r := ⟨_, rfl⟩
    obtain ⟨r2, hr2⟩ : ∃ r, l.all sepOk = r := ⟨_, rfl⟩
    obtain ⟨r3, hr3⟩ : ∃ r, sorted l = r := ⟨_, rfl⟩
    have S := fun W q => refSize_calls A n c vs l W q hf
    have LAY := fun W q1 q2 hw => lay_calls level A n c vs l B m d ks W q1 q2 hw
    generalize sizeS l = Z at S hwr
    obtain ⟨r4, hr4⟩ : ∃ r, decide (4092 < Z) = r := ⟨_, rfl⟩
    rw [hr1, hr2, hr3, hr4] at hwr
    have HW := hideIt hwr
    have H1 : Hid ((ks.drop 0).all kidOk = r1) := hideIt hr1
    have H2 : Hid ((l.drop 0).all sepOk = r2) := hideIt hr2
    have H3 : Hid (sorted (l.drop 0) = r3) := hideIt hr3
    have H4 := hideIt hr4
    have i1 : decide (level < 1) = false := decide_eq_false (by omega)
    have i2 : decide (15 < level) = false := decide_eq_false (by omega)
    have i3 : ((m : Int) == 0) = false := beq_eq_false_iff_ne.2 (by omega)
    have i4 : ((m : Int) != (n : Int) + 1) = false := by rw [bne_eq_false_iff_eq]; omega
    have Q4 := hideIt q4
    clear hr1 hr2 hr3 hr4 hsh q1 q2 q3 q4 hwr
    go_enter Tryz.func45, Tryz.ntmps45
    go_wp2
    go_loopw [8] (fun ii wr => ∃ i, i ≤ m ∧ ii = .int .i64 (i : Int) ∧ Hid ((ks.drop i).all kidOk = r1) ∧ Below w.heap.size w wr)
      (fun ii _ => m - (intOf ii).toNat)
    case atStart => exact ⟨0, by omega, rfl, H1, Below.refl _ _⟩
    case round =>
      clear H1
      obtain ⟨i, hi, rfl, H1, bw⟩ := hrel
      by_cases hlt : i < m
      · obtain ⟨ad, x, y, rfl, hx, c1, c2⟩ := (hk.below bw).at_ i hlt
        have st := all_step (f := kidOk) hx
        rw [H1.out] at st
        have IK := fun W => refkid_calls x y W
        have j1 : (i : Int) < (m : Int) := by omega
        cases hko : kidOk (x, y)
        · rw [hko] at st IK
          rw [Bool.false_and] at st
          subst st
          clear hko hx
          go_wp2_with (go_at_call 97; refine (IK _).mono ?_; rintro en w2 ⟨rfl, b3⟩; have b4 := blw_step bw b3)
          go_ret2
          exact EncOut.no 51 (by decide) HW.out b4
        · rw [hko] at st IK
          rw [Bool.true_and] at st
          have ST := hideIt st.symm
          clear hko hx st
          go_wp2_with (go_at_call 97; refine (IK _).mono ?_; rintro en w2 ⟨rfl, b3⟩; have b4 := blw_step bw b3)
          go_roundw
          case rel => exact ⟨i + 1, by omega, by go_num, ST, b4⟩
          case measure => simp [intOf]; omega
      · obtain rfl : m = i := by omega
        rw [all_end (by rw [HK.out]; exact Nat.le_refl _)] at H1
        obtain rfl := H1.out
        clear H1
        go_wp2
        go_loopw [9] (fun ii wr => ∃ i, i ≤ n ∧ ii = .int .i64 (i : Int) ∧ Hid ((l.drop i).all sepOk = r2) ∧ Below w.heap.size w wr)
          (fun ii _ => n - (intOf ii).toNat)
        case atStart => exact ⟨0, by omega, rfl, H2, bw⟩
        case round =>
          clear H2 bw
          obtain ⟨i, hi, rfl, H2, bw⟩ := hrel
          by_cases hlt : i < n
          · obtain ⟨ad, Ai, ni, ci, s, rfl, hs, cell, rs⟩ := (h.below bw).row i hlt
            have st := all_step (f := sepOk) hs
            rw [H2.out] at st
            have hso : sepOk s = decide (1 ≤ ni ∧ ni ≤ 255) := by unfold sepOk; rw [rs.len]
            have j1 : (i : Int) < (n : Int) := by omega
            by_cases k1 : 1 ≤ ni
            · by_cases k2 : ni ≤ 255
              · rw [decide_eq_true ⟨k1, k2⟩] at hso
                rw [hso, Bool.true_and] at st
                have ST := hideIt st.symm
                have t1 : decide ((ni : Int) < 1) = false := decide_eq_false (by omega)
                have t2 : decide ((255 : Int) < (ni : Int)) = false := decide_eq_false (by omega)
                clear hs hso st
                go_wp2
                go_roundw
                case rel => exact ⟨i + 1, by omega, by go_num, ST, bw⟩
                case measure => simp [intOf]; omega
              · rw [decide_eq_false (fun q => k2 q.2)] at hso
                rw [hso, Bool.false_and] at st
                subst st
                have t1 : decide ((ni : Int) < 1) = false := decide_eq_false (by omega)
                have t2 : decide ((255 : Int) < (ni : Int)) = true := decide_eq_true (by omega)
                clear hs hso
                go_wp2
                go_ret2
                exact EncOut.no 41 (by decide) HW.out bw
            · rw [decide_eq_false (fun q => k1 q.1)] at hso
              rw [hso, Bool.false_and] at st
              subst st
              have t1 : decide ((ni : Int) < 1) = true := decide_eq_true (by omega)
              clear hs hso
              go_wp2
              go_ret2
              exact EncOut.no 41 (by decide) HW.out bw
          · obtain rfl : n = i := by omega
            rw [all_end (by rw [HL.out]; exact Nat.le_refl _)] at H2
            obtain rfl := H2.out
            clear H2
            go_wp2
            go_loopw [10] (fun ii wr => ∃ j : Nat, 1 ≤ j ∧ j ≤ n + 1 ∧ ii = .int .i64 (j : Int) ∧ Hid (sorted (l.drop (j - 1)) = r3) ∧ Below w.heap.size w wr)
              (fun ii _ => n + 2 - (intOf ii).toNat)
            case atStart => exact ⟨1, by omega, by omega, rfl, H3, bw⟩
            case round =>
              clear H3 bw
              obtain ⟨j, hj, hj2, rfl, H3, bw⟩ := hrel
              by_cases hlt : j < n
              · obtain ⟨ad, Ai, ni, ci, s, rfl, hs, cell, rs⟩ := (h.below bw).row (j - 1) (by omega)
                obtain ⟨ad', Aj, nj, cj, t, e', ht, cell', rt⟩ := (h.below bw).row j hlt
                cases e'
                have st := sorted_step hs (show l[j - 1 + 1]? = some t by rw [Nat.sub_add_cancel hj]; exact ht)
                rw [H3.out] at st
                have j1 : (j : Int) < (n : Int) := by omega
                have f1 : ((j : Int) - 1).toNat = j - 1 := by omega
                have f2 : (0 : Int) ≤ (j : Int) - 1 := by omega
                have f3 : (j : Int) - 1 < (n : Int) := by omega
                have CM := fun mm => Less_calls _ _ _ _ _ _ _ _ (wr.drewN mm) (drewB rs mm) (drewB rt mm)
                generalize Key.cmpB s t = z at CM st
                by_cases hz : z < 0
                · rw [decide_eq_true hz] at CM
                  rw [decide_eq_true hz, Bool.true_and] at st
                  have ST := hideIt st.symm
                  clear st hs ht hz
                  go_wp2
                  go_quiet (first | (go_at_call 98; exact Calls.quiet_of_same (CM _)))
                  go_wp2
                  go_roundw
                  case rel => exact ⟨j + 1, by omega, by omega, by go_num, by rw [show j + 1 - 1 = j - 1 + 1 by omega]; exact ST, below_drewN bw _⟩
                  case measure => simp [intOf]; omega
                · rw [decide_eq_false hz] at CM
                  rw [decide_eq_false hz, Bool.false_and] at st
                  subst st
                  clear hs ht hz
                  go_wp2
                  go_quiet (first | (go_at_call 98; exact Calls.quiet_of_same (CM _)))
                  go_wp2
                  go_ret2
                  exact EncOut.no 30 (by decide) HW.out (below_drewN bw _)
              · rw [sorted_end (by rw [HL.out]; omega)] at H3
                obtain rfl := H3.out
                have j1 : decide ((j : Int) < (n : Int)) = false := decide_eq_false (by omega)
                have hw := h.below bw
                by_cases hz : 4092 < Z
                · obtain rfl : r4 = true := by rw [← H4.out]; exact decide_eq_true hz
                  have j2 : (4092 : Int) < (Z : Int) := by omega
                  clear hz H3
                  go_wp2_with (go_at_call 99; refine (S _ hw).mono ?_; rintro en w2 ⟨rfl, jj, rfl⟩)
                  go_ret2
                  exact EncOut.no 42 (by decide) HW.out (below_drewN bw _)
                · obtain rfl : r4 = false := by rw [← H4.out]; exact decide_eq_false hz
                  have j2 : (Z : Int) ≤ 4092 := by omega
                  have hw0 : Hid (wrongS level l ks = 0) := HW
                  clear hz H3 HW
                  go_wp2_with (first
                    | (go_at_call 99; refine (S _ hw).mono ?_; rintro en w2 ⟨rfl, jj, rfl⟩; have b2 := below_drewN bw jj)
                    | (go_at_call 100; refine (LAY _ (h.below b2) (hk.below b2) hw0.out).mono ?_; rintro en w3 ⟨g3, rfl, s3, o3, x3⟩))
                  go_ret2
                  exact EncOut.ok hw0.out o3 (Nat.le_trans b2.size s3) (blw_step b2 x3)
  · have hwr := wrong_50 hsh (ks := ks)
    have hc : level < 1 ∨ 15 < level ∨ m = 0 ∨ m ≠ n + 1 := by
      have : ¬ (1 ≤ level ∧ level ≤ 15 ∧ m ≠ 0 ∧ m = n + 1) := fun q => hsh (shape_iff.2 (by rw [HL.out, HK.out]; exact q))
      omega
    have fin := EncOut.no 50 (by decide) hwr (Below.refl w.heap.size w)
    clear hsh hwr
    by_cases c1 : level < 1
    · have i1 : decide (level < 1) = true := decide_eq_true c1
      clear hc c1
      go_enter Tryz.func45, Tryz.ntmps45
      go_wp2
      go_ret2
      exact fin
    · have i1 : decide (level < 1) = false := decide_eq_false c1
      by_cases c2 : 15 < level
      · have i2 : decide (15 < level) = true := decide_eq_true c2
        clear hc c1 c2
        go_enter Tryz.func45, Tryz.ntmps45
        go_wp2
        go_ret2
        exact fin
      · have i2 : decide (15 < level) = false := decide_eq_false c2
        by_cases c3 : m = 0
        · subst c3
          clear hc c1 c2
          go_enter Tryz.func45, Tryz.ntmps45
          go_wp2
          go_ret2
          exact fin
        · have i3 : ((m : Int) == 0) = false := beq_eq_false_iff_ne.2 (by omega)
          have i4 : ((m : Int) != (n : Int) + 1) = true := by rw [bne_iff_ne]; omega
          clear hc c1 c2 c3
          go_enter Tryz.func45, Tryz.ntmps45
          go_wp2
          go_ret2
          exact fin
end Go.Proofs.YtmeakhiiebeneaaGreatDoor
