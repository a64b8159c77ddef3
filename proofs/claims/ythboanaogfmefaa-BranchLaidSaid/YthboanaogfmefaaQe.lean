/- coppicelaw5.BranchBack. -/
import Derived.Test.YthboanaogfmefaaQd
namespace Go.Proofs.Ythboanaogfmefaa
open Go.RowKit

theorem kidB_last (k : Int × Int) (hk : kidOk k = true) : ∃ T, kidB k = T ++ [UInt8.ofNat (k.2.toNat / 16777216)] := by
  have := of_decide_eq_true hk
  refine ⟨leB k.1.toNat 4 ++ leB k.2.toNat 3, ?_⟩
  unfold kidB
  rw [leB_snoc k.2.toNat 3, ← List.append_assoc]
  congr 2
  have e : k.2.toNat / 256 ^ 3 % 256 = k.2.toNat / 16777216 := by
    rw [show (256 : Nat) ^ 3 = 16777216 from rfl]; omega
  rw [e]
theorem used_last {level : Int} {l : List (List UInt8)} {ks : List (Int × Int)} (h : Ok level l ks) (k : Int × Int) (hk : ks[ks.length - 1]? = some k) : ∃ T, usedB level l ks = T ++ [UInt8.ofNat (k.2.toNat / 16777216)] := by
  obtain ⟨T, hT⟩ := kidB_last k (h.kids k (List.mem_of_getElem? hk))
  have hn := h.n
  have hz := zips_length l ks hn
  unfold usedB
  rcases Nat.eq_zero_or_pos l.length with h0 | h0
  · have e : zips l ks = [] := List.eq_nil_of_length_eq_zero (by rw [hz, h0])
    have ek : kid0 ks = k := by
      unfold kid0
      rw [List.headD_eq_head?_getD, List.head?_eq_getElem?]
      rw [show ks.length - 1 = 0 by omega] at hk
      rw [hk]; rfl
    unfold frontB
    rw [e, ek, hT]
    exact ⟨headB level l ks ++ sz ((headB level l ks).length + 2 * l.length + 8) (Key.comAll l) [] l.length ++ T, by simp [cz]⟩
  · obtain ⟨s, hs⟩ : ∃ s, l[l.length - 1]? = some s := ⟨_, List.getElem?_eq_getElem (by omega)⟩
    have hz1 := zips_get l ks (l.length - 1) s k hs (by rw [show l.length - 1 + 1 = ks.length - 1 by omega]; exact hk)
    have hc := cz_succ (Key.comAll l) (zips l ks) (l.length - 1) (s, k) hz1
    rw [show l.length - 1 + 1 = (zips l ks).length by omega, List.take_length] at hc
    rw [hc]
    unfold cellB
    rw [hT]
    exact ⟨frontB level l ks ++ (cz (Key.comAll l) ((zips l ks).take (l.length - 1)) ++ (vF 9 (s.length - Key.comAll l) ++ (s.drop (Key.comAll l) ++ T))), by simp only [List.append_assoc]⟩
/-- the last used byte, and the zeros behind it. -/
theorem body_end {level : Int} {l : List (List UInt8)} {ks : List (Int × Int)} (h : Ok level l ks) (k : Int × Int) (hk : ks[ks.length - 1]? = some k) :
    13 ≤ sizeS l ∧ sizeS l ≤ 4092 ∧ (bodyB level l ks)[sizeS l - 1]? = some (UInt8.ofNat (k.2.toNat / 16777216)) ∧ ∀ i, sizeS l ≤ i → i < 4092 → (bodyB level l ks)[i]? = some 0 := by
  have hu := usedB_length level l ks h.n
  obtain ⟨T, hT⟩ := used_last h k hk
  have hm := size_min l
  refine ⟨hm, h.size, ?_, fun i h1 h2 => ?_⟩
  · unfold bodyB
    rw [List.getElem?_append_left (by omega), hT, List.getElem?_append_right (by have := congrArg List.length hT; rw [hu, List.length_append, List.length_singleton] at this; omega)]
    have := congrArg List.length hT
    rw [hu, List.length_append, List.length_singleton] at this
    rw [show sizeS l - 1 - T.length = 0 by omega]; rfl
  · unfold bodyB
    rw [List.getElem?_append_right (by omega), hu, List.getElem?_replicate, if_pos (by omega)]

set_option maxRecDepth 100000 in
set_option maxHeartbeats 4000000 in
theorem BranchBack_walk (level : Int) (A : Option Addr) (n c : Nat) (vs : List Value) (l : List (List UInt8)) (B : Option Addr) (m d : Nat) (ks : List (Int × Int)) (w : World) (_hz : -9223372036854775808 ≤ level ∧ level ≤ 9223372036854775807) (h : RM w A n c vs l) (hk : RK w B m d ks) :
    Calls Try.prog 7 #[.int .i64 level, .slice A n c, .slice B m d] w fun e w' => e = .returned (.bool true) ∧ Below w.heap.size w w' := by
  have FW := fun W q => few_calls A n c vs l B m d W q
  obtain ⟨f, hf⟩ : ∃ f, fewS l m = f := ⟨_, rfl⟩
  rw [hf] at FW
  have HF := hideIt hf
  clear hf
  go_enter Try.func7, Try.ntmps7
  go_upto_region 2 with (go_at_call 12; refine (first_calls _).mono ?_; rintro en w1 ⟨rfl, b1⟩)
  have h1 := h.below b1
  have k1 := hk.below b1
  cases f
  · go_wp2_with (go_at_call 13; refine (FW _ h1).mono ?_; rintro en wx ⟨rfl, rfl⟩)
    go_ret
    exact ⟨rfl, b1⟩
  have ff := few_few HF.out h.len
  go_upto_region 4 with (go_at_call 13; refine (FW _ h1).mono ?_; rintro en wx ⟨rfl, rfl⟩)
  clear FW h hk
  by_cases hw : wrongS level l ks = 0
  · have EN := Encode_ok level _ _ _ _ _ _ _ _ _ _ h1 k1 hw
    obtain ⟨k, hk⟩ : ∃ k, ks[ks.length - 1]? = some k := ⟨_, List.getElem?_eq_getElem (by have := (ok_of hw).n; omega)⟩
    obtain ⟨z1, z2, z3, z4⟩ := body_end (ok_of hw) k hk
    have IB := hideIt (show IsBody (bodyB level l ks) level l ks from ⟨hw, rfl⟩)
    have kok := of_decide_eq_true ((ok_of hw).kids k (List.mem_of_getElem? hk))
    rw [k1.len] at hk
    have HKL := hideIt hk
    have mpos : 0 < m := by have := (ok_of hw).n; rw [k1.len] at this; omega
    have HW := hideIt hw
    have HZ3 := hideIt z3
    have HZ4 := hideIt z4
    clear z3 z4 hk hw
    generalize bodyB level l ks = body at EN IB HZ3 HZ4
    go_upto_region 5 with (go_at_call 21; refine EN.mono ?_; rintro en w2 ⟨g2, rfl, s2, o2, x2⟩)
    have h2 := h1.below x2
    have k2 := k1.below x2
    have b2 := blw_step b1 x2
    have MY := may_calls level _ _ _ _ _ _ _ _ _ _ h2 ff k2
    rw [HW.out] at MY
    clear EN h1 k1 b1 x2 s2
    go_upto_region 6 with (go_at_call 28; refine MY.mono ?_; rintro en w3 ⟨rfl, x3⟩)
    have h3 := h2.below x3
    have k3 := k2.below x3
    have o3 := o2.below x3
    have b3 := blw_step b2 x3
    clear MY h2 k2 o2 b2 x3
    go_upto_region 9 with (go_at_call 29; refine (Decode_calls _ _ _ _ _ o3.read).mono ?_; intro en w4 qd; obtain ⟨A1, n1, c1, ps, A2, n2, c2, rfl, om, gk, x4⟩ := qd.yes IB.out)
    have h4 := h3.below x4
    have k4 := k3.below x4
    have o4 := o3.below x4
    have b4 := blw_step b3 x4
    have S1 := SameByteLists_calls _ _ _ _ _ _ _ _ _ _ _ om.read h4 true (by simp)
    have S2 := fun j W (e : W = w4.drewN j) => SameKids_calls _ _ _ _ _ _ _ _ W (RK.at_world ((GK.read gk).drew_ j) e) (RK.at_world (k4.drew_ j) e) true (by simp)
    clear h3 k3 o3 b3 x4 om gk qd
    go_upto_region 10 with (first
      | (go_at_call 31; refine (S2 j5 _ H5.out).mono ?_; rintro en w6 ⟨rfl, j6, h6⟩; have b6 := below_at (below_drewN b5 j6) h6; have y6 := below_at (below_drewN y5 j6) h6; clear h6)
      | (go_at_call 30; refine S1.mono ?_; rintro en w5 ⟨rfl, j5, h5⟩; have b5 := below_at (below_drewN b4 j5) h5; have y5 := below_at (below_drewN (Below.refl w4.heap.size w4) j5) h5; have H5 := hideIt h5; clear h5))
    have h6 := h4.below y6
    have k6 := k4.below y6
    have o6 := o4.below y6
    clear S1 S2 h4 k4 o4 b4 b5 y5 y6 H5
    go_upto_region 12 with (go_at_call 25; refine (num_calls _ _).mono ?_; rintro en wx ⟨rfl, rfl⟩)
    have S3 := Size_calls _ _ _ _ _ _ h6 ff
    generalize sizeS l = Z at S3 z1 z2 HZ3 HZ4
    go_upto_region 13 with (go_at_call 15; refine S3.mono ?_; rintro en w7 ⟨rfl, x7⟩)
    have k7 := k6.below x7
    have o7 := o6.below x7
    have b7 := blw_step b6 x7
    clear S3 h6 k6 o6 b6 x7 ff HF
    obtain ⟨ad, kx, ky, rfl, hkk, c1', c2'⟩ := k7.at_ (m - 1) (by omega)
    have ekk := hkk.symm.trans HKL.out
    have ek2 : k.2 = ky := by cases ekk; rfl
    have oz := OC.cell o7 (Z - 1) (.int .u8 (((UInt8.ofNat (ky.toNat / 16777216)).toNat : Nat) : Int)) (by
      rw [← ek2]
      unfold u8s
      rw [List.getElem?_map, HZ3.out]; rfl)
    have ky1 : 1 ≤ ky ∧ ky ≤ 4294967295 := by rw [← ek2]; exact ⟨kok.2.2.1, kok.2.2.2⟩
    have bz : (((UInt8.ofNat (ky.toNat / 16777216)).toNat : Nat) : Int) = ky / 16777216 := by
      rw [byte_ofNat (by omega)]; omega
    rw [bz] at oz
    have ky0 : 0 ≤ ky / 16777216 := by omega
    have ky9 : ky / 16777216 < 256 := by omega
    have i1 : decide ((Z : Int) < 13) = false := decide_eq_false (by omega)
    have i2 : ((Z : Int) - 1).toNat = Z - 1 := by omega
    have i3 : (0 : Int) ≤ (Z : Int) - 1 := by omega
    have i4 : (Z : Int) - 1 < 4092 := by omega
    have i5 : ((m : Int) - 1).toNat = m - 1 := by omega
    have i6 : (0 : Int) ≤ (m : Int) - 1 := by omega
    have i7 : (m : Int) - 1 < (m : Int) := by omega
    have mm := RK.max k7
    clear ekk hkk ek2 kok k7 HKL HW HZ3
    go_quiet (fail)
    go_upto_region 15 with fail
    have o8 := o7.below (below_drewN (Below.refl _ _) nq)
    have b8 := below_drewN b7 nq
    generalize w7.drewN nq = w8 at o8 b8 ⊢
    clear oz c1' c2' bz ky0 ky9 ky1 i1 i2 i3 i4 i5 i6 i7 mm o7 b7
    go_wp2
    go_loop [17] (fun ii => ∃ i : Nat, Z ≤ i ∧ i ≤ 4092 ∧ ii = .int .i64 (i : Int)) (fun ii => 4092 - (intOf ii).toNat)
    case atStart => exact ⟨Z, Nat.le_refl _, z2, rfl⟩
    case round =>
      obtain ⟨i, hi1, hi2, rfl⟩ := hrel
      by_cases hlt : i < 4092
      · have cz := OC.cell o8 i (.int .u8 0) (by unfold u8s; rw [List.getElem?_map, HZ4.out i hi1 hlt]; rfl)
        have j1 : (i : Int) < 4092 := by omega
        go_wp2
        go_round
        case rel => exact ⟨i + 1, by omega, by omega, by go_num⟩
        case measure => simp [intOf]; omega
      · obtain rfl : 4092 = i := by omega
        go_wp2
        go_ret
        exact ⟨rfl, b8⟩
  · have EN := Encode_no level _ _ _ _ _ _ _ _ _ _ h1 ff k1 hw
    have MY := fun W q1 q2 => may_calls level A n c vs l B m d ks W q1 ff q2
    generalize wrongS level l ks = z at EN hw MY
    have z0 : (z != 0) = true := by rw [bne_iff_ne]; exact hw
    rw [decide_eq_false hw] at MY
    clear hw
    go_upto_region 5 with (go_at_call 21; refine EN.mono ?_; rintro en w2 ⟨rfl, x2⟩)
    have h2 := h1.below x2
    have k2 := k1.below x2
    have b2 := blw_step b1 x2
    go_upto_region 6 with (go_at_call 28; refine (MY _ h2 k2).mono ?_; rintro en w3 ⟨rfl, x3⟩)
    have b3 := blw_step b2 x3
    clear EN MY h2 k2 h1 k1 b1 x2 b2 x3
    go_wp2_with (go_at_call 25; refine (num_calls _ _).mono ?_; rintro en wx ⟨rfl, rfl⟩)
    go_ret
    exact ⟨rfl, b3⟩
end Go.Proofs.Ythboanaogfmefaa
