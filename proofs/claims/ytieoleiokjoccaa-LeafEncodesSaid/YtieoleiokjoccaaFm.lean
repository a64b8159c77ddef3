/- coppiceref4: Encode. -/
import Derived.Test.YtieoleiokjoccaaFl
namespace Go.Proofs.Ytieoleiokjoccaa
open Go.RowKit

theorem refcell_calls (A1 : Option Addr) (n1 c1 : Nat) (A3 : Option Addr) (n3 c3 : Nat) (x : It) (p m : Nat) (w : World) (hk : RB w A1 n1 c1 x.k) (hv : RB w A3 n3 c3 x.v) (hp : p ≤ n1) (h1 : lenOk x = true) (h2 : holdT x = true) (hm : (cellT p x).length = m) :
    Calls Try.prog 62 #[.agg #[.slice A1 n1 c1, .slice A3 n3 c3, .int .i64 x.s, .int .i64 x.f], .int .i64 (p : Int)] w fun e w' => ∃ g c', e = .returned (.slice (some ⟨g, 0, none⟩) m c') ∧ w.heap.size ≤ g ∧ OB w' g m c' (cellT p x) ∧ Below w.heap.size w w' := by
  obtain ⟨q1, q2, q3, q4⟩ := of_decide_eq_true h1
  have kl := hk.len
  have vl' := hv.len
  obtain ⟨s, hs⟩ : ∃ s : Nat, x.s = (s : Int) := ⟨x.s.toNat, by omega⟩
  have hfv : ∃ f : Nat, x.f = (f : Int) ∧ f < 524287 ∧ n3 ≤ 5000 := by
    unfold holdT at h2
    split at h2
    · have := of_decide_eq_true h2
      exact ⟨x.f.toNat, by omega, by omega, by omega⟩
    · have := of_decide_eq_true h2
      exact ⟨0, by omega, by omega, by omega⟩
  obtain ⟨f, hf, fb, nb⟩ := hfv
  have e : cellT p x = vF 9 (n1 - p) ++ x.k.drop p ++ vF 9 (tagT s) ++ (if 512 < s then leB f 4 else x.v) := by
    unfold cellT restT tagT
    rw [kl]
    by_cases hc : 512 < s
    · rw [if_pos (show 512 < x.s by omega), if_pos hc, if_pos hc, hs, hf, Int.toNat_natCast, Int.toNat_natCast]
      simp only [List.append_assoc]
    · rw [if_neg (show ¬ 512 < x.s by omega), if_neg hc, if_neg hc, hs, Int.toNat_natCast]
      simp only [List.append_assoc]
  have := refcell_nat A1 n1 c1 A3 n3 c3 x.k x.v s f p (n1 - p) (tagT s) w hk hv hp rfl (by omega) (by omega) fb nb rfl
  rw [hs, hf]
  refine this.mono ?_
  rintro en w' ⟨g, m', c', rfl, g1, o, b⟩
  rw [← e] at o
  have := o.len
  rw [hm] at this
  subst this
  exact ⟨g, c', rfl, g1, o, b⟩

set_option maxRecDepth 100000 in
set_option maxHeartbeats 8000000 in
theorem refEncode_ok (A : Option Addr) (n c : Nat) (vs : List Value) (l : List It) (w : World) (h : RT w A n c vs l) (hw : errT l = 0) :
    Calls Try.prog 41 #[.slice A n c] w fun e w' => ∃ g c', e = .returned (.tuple #[.slice (some ⟨g, 0, none⟩) 4092 c', .int .i64 0]) ∧ w.heap.size ≤ g ∧ OB w' g 4092 c' (bodyT l) ∧ Below w.heap.size w w' := by
  have hO := okT_of hw
  have hl := h.len
  have hfew := hO.few
  have hF : FewT n l := ⟨by omega, fun x hx => by have := of_decide_eq_true (hO.len x hx); omega⟩
  have hw0 : wrongT l = 0 := by
    unfold errT at hw
    by_cases z : wrongT l = 0
    · exact z
    · rw [if_neg z] at hw; exact hw
  have hsz := hO.size
  have MY := fun W q => Wrong_calls A n c vs l W q
  rw [hw0] at MY
  have SZ := fun W q => refSize_calls A n c vs l W q hF
  have US := usedT_length hO
  obtain ⟨Z, hZ⟩ : ∃ Z, sizeT l = Z := ⟨_, rfl⟩
  have hbody : bodyT l = usedT l ++ zer (4092 - Z) := by unfold bodyT; rw [hZ]
  rw [hZ] at hsz SZ US
  have PX := fun W q => common_calls A n c vs l W q
  obtain ⟨hh1, hh2⟩ := head_len hO
  have HE : Hid (headT l = [1] ++ leB l.length 2 ++ vF 9 (preT l) ++ ((keysT l).headD []).take (preT l)) := hideIt rfl
  have HU : Hid (usedT l = headT l ++ slT ((headT l).length + 2 * l.length) (preT l) l l.length ++ ct (preT l) l) := hideIt rfl
  have HHL := headT_length l
  obtain ⟨p, hp⟩ : ∃ p, preT l = p := ⟨_, rfl⟩
  have HP := hideIt hp
  rw [hp] at HHL PX HE
  obtain ⟨H, hH⟩ : ∃ H, (headT l).length = H := ⟨_, rfl⟩
  have HHH := hideIt hH
  rw [hH] at HHL hh1
  rw [hl] at hh1 hh2
  have LN := hideIt hl
  have vp := (vl_bounds p).2
  have un := u64_wrap n (by omega)
  have upp := u64_wrap p (by omega)
  have HHL2 := hideIt HHL
  have pb : p ≤ 4092 := by omega
  have HOH := hideIt hO
  have HB := hideIt hbody
  have HUS := hideIt US
  clear hl hw hw0 hfew hp hH HHL hO hZ hbody US
  go_enter Try.func41, Try.ntmps41
  go_upto_region 2 with (go_at_call 28; refine (MY _ h).mono ?_; rintro en w1 ⟨rfl, b1⟩)
  have h1 := h.below b1
  clear MY
  go_upto_region 6 with (go_at_call 17; refine (SZ _ h1).mono ?_; rintro en w2 ⟨rfl, j2, h2⟩; have H2 := hideIt h2; clear h2)
  have b2 : Below w.heap.size w w2 := by rw [H2.out]; exact below_drewN b1 j2
  have h2 := h.below b2
  clear SZ h1 b1 H2
  go_upto_region 7 with (go_at_call 36; refine (PX _ h2).mono ?_; rintro en w3 ⟨rfl, j3, h3⟩; have H3 := hideIt h3; clear h3)
  have b3 : Below w.heap.size w w3 := by rw [H3.out]; exact below_drewN b2 j3
  clear PX h2 b2 H3
  have lit := lit_read w3 [1] 1 (0, 0) 5 rfl (by decide)
  have b3a := blw_step b3 (below1 w3 (.cells #[.int .u8 1] 5))
  go_upto_region 9 with (go_at_call 60; (refine (refPut2T 3 _ _ _ _ n _ lit rfl (by omega) (by omega)).mono ?_); rintro en w4 ⟨g4, e4, rfl, s4, o4, y4⟩)
  have b4 := blw_step b3a y4
  have s4w := Nat.le_trans b3a.size s4
  clear lit b3 b3a y4 s4
  go_upto_region 10 with (go_at_call 61; (refine (refPutVT (3 + vl p) _ _ _ _ p _ o4.read rfl (by omega) (by omega)).mono ?_); rintro en w5 ⟨g5, e5, rfl, s5, o5, y5⟩)
  have b5 := blw_step b4 y5
  have s5w := Nat.le_trans b4.size s5
  obtain ⟨ad, ⟨A0, n0, e0⟩, q0, x0, rfl, hx0, it0, rk0, -⟩ := h.row 0 hh2
  have c00 := it0.c0
  rw [Nat.zero_mul, Addr.add_zero'] at c00
  simp only at c00 rk0
  have pn0 : p ≤ n0 := by rw [← rk0.len, ← HP.out]; exact (preT_le l x0 (List.mem_of_getElem? hx0)).2
  have hd0 : (keysT l).headD [] = x0.k := by rw [List.headD_eq_head?_getD, List.head?_eq_getElem?, keysT_get l 0 x0 hx0]; rfl
  rw [hd0, LN.out] at HE
  have HK0 := hideIt rk0.len
  have i0 : (0 : Int) < (n : Int) := by omega
  have lc0 := World.block_lt_of_cell? w _ c00
  clear it0 hx0 hd0 o4 b4 y5 s5 s4w
  go_wp2
  go_loopw [7, 8] (fun bb ii wr => ∃ (i g m cc : Nat), i ≤ p ∧ ii = .int .i64 (i : Int) ∧ bb = .slice (some ⟨g, 0, none⟩) m cc ∧ m = 3 + vl p + i ∧ w.heap.size ≤ g ∧ OB wr g m cc ([1] ++ leB n 2 ++ vF 9 p ++ x0.k.take i) ∧ Below w.heap.size w wr)
    (fun _ ii _ => p - (intOf ii).toNat)
  case atStart => exact ⟨0, g5, 3 + vl p, e5, by omega, rfl, rfl, by omega, s5w, by simpa using o5, b5⟩
  case round =>
    clear o5 b5 s5w
    obtain ⟨i, g, m, cc, hi, rfl, rfl, hm, lg, o, b⟩ := hrel
    by_cases hlt : i < p
    · have cc0 := (b.cell (p := ad) lc0).trans c00
      have rkb := rk0.below b
      obtain ⟨ad2, rfl, cell⟩ := rkb.at_ i (by rw [HK0.out]; omega)
      have st := take_snocT (xs := x0.k) (i := i) (by rw [HK0.out]; omega)
      have ST := hideIt st
      obtain ⟨y, hy⟩ : ∃ y, x0.k[i]'(by rw [HK0.out]; omega) = y := ⟨_, rfl⟩
      rw [hy] at ST cell
      have ba := below1 wr (.cells #[.int .u8 (y.toNat : Int)] 5)
      have o1 := o.below ba
      have r1 := one_cellT wr y
      have b1 := blw_step b ba
      have i1 : (i : Int) < (p : Int) := by omega
      have i2 : (i : Int) < (n0 : Int) := by omega
      have HM := hideIt hm
      have mb : m ≤ 10000 := by omega
      clear st hy hm
      go_wp2_with (with_reducible refine wpB_app2 rfl (.tmp 40) (.tmp 48) rfl _ _ _ _ rfl o1 _ _ _ _ rfl r1 (m + 1) rfl (by omega) ?_; intro g4 c4 w4 q4 o4)
      have F4 := grown_new q4 b1 lg
      have o5 : OB w4 g4 (m + 1) c4 ([1] ++ leB n 2 ++ vF 9 p ++ x0.k.take (i + 1)) := by
        rw [ST.out, ← List.append_assoc]; exact o4
      go_roundw
      case rel => exact ⟨i + 1, g4, m + 1, c4, by omega, by go_num, rfl, by rw [HM.out]; omega, F4.1, o5, F4.2⟩
      case measure => simp [intOf]; omega
    · obtain rfl : p = i := by omega
      have hmH : m = H := by rw [hm, HHL2.out]
      subst hmH
      have eT : [1] ++ leB n 2 ++ vF 9 p ++ x0.k.take p = headT l := HE.out.symm
      rw [eT] at o
      have t1 : decide ((p : Int) < (p : Int)) = false := decide_eq_false (by omega)
      clear eT HE hm rk0 c00 HK0 lc0 HHL2
      go_wp2
      go_loopw [7, 9, 10] (fun bb aa ii wr => ∃ (i a g M cc : Nat), i ≤ n ∧ ii = .int .i64 (i : Int) ∧ aa = .int .i64 (a : Int) ∧ bb = .slice (some ⟨g, 0, none⟩) M cc ∧ M = m + 2 * i ∧ Hid (a = atT l i) ∧ a ≤ 4092 ∧ w.heap.size ≤ g ∧ OB wr g M cc (headT l ++ slT (m + 2 * n) p l i) ∧ Below w.heap.size w wr)
        (fun _ _ ii _ => n - (intOf ii).toNat)
      case atStart => exact ⟨0, m + 2 * n, g, m, cc, by omega, rfl, by go_num, rfl, by omega, hideIt (by unfold atT; rw [HHH.out, LN.out]; simp [ct]), by omega, lg, by simpa [slT] using o, b⟩
      case round =>
        clear o b lg
        obtain ⟨i, a, g, M, cc, hi, rfl, rfl, rfl, hM, HA, ab, lg, o, b⟩ := hrel
        by_cases hlt : i < n
        · obtain ⟨ad', ⟨A1, n1, c1⟩, ⟨A3, n3, c3⟩, x, e', hx, it, rk, rv⟩ := h.row i hlt
          cases e'
          simp only at rk rv
          have LX := hideIt (HOH.out.len x (List.mem_of_getElem? hx))
          have HX2 := hideIt (HOH.out.hold x (List.mem_of_getElem? hx))
          have px : p ≤ n1 := by rw [← rk.len, ← HP.out]; exact (preT_le l x (List.mem_of_getElem? hx)).2
          have fit := cellT_fit HOH.out i x hx
          obtain ⟨q, hq⟩ : ∃ q, (cellT p x).length = q := ⟨_, rfl⟩
          have fit2 : a + q ≤ 4092 := by rw [HA.out, ← hq, ← HP.out]; exact fit
          have HA2 : Hid (a + q = atT l (i + 1)) := hideIt (by
            rw [HA.out, ← hq, ← HP.out]; unfold atT; rw [ct_succ _ _ _ _ hx, List.length_append]; omega)
          have sc : slT (m + 2 * n) p l (i + 1) = slT (m + 2 * n) p l i ++ leB a 2 := by
            rw [slT_succ, HA.out]; unfold atT; rw [HHH.out, LN.out, HP.out]
          have SC := hideIt sc
          have HQ := hideIt hq
          have ua := u64_wrap a (by omega)
          have i1 : (i : Int) < (n : Int) := by omega
          have HM := hideIt hM
          have mb : M ≤ 10000 := by omega
          clear fit hq sc hx hM
          go_upto_region 19 with (go_at_call 60; (refine (refPut2T (M + 2) _ _ _ _ a _ o.read rfl (by omega) (by omega)).mono ?_); rintro en w4 ⟨g4, e4, rfl, s4, o4, y4⟩)
          have b4 := blw_step b y4
          have s4w := Nat.le_trans b.size s4
          obtain ⟨i0', i1', i2', i3'⟩ := it.below b4
          simp only at i0' i1'
          have rk4 := rk.below b4
          have rv4 := rv.below b4
          clear o y4 s4 b it
          go_wp2_with (go_at_call 62; (refine (refcell_calls _ _ _ _ _ _ x p q _ rk4 rv4 px LX.out HX2.out HQ.out).mono ?_); rintro en w6 ⟨g6, e6, rfl, s6, o6, y6⟩)
          have b6 := blw_step b4 y6
          have o7 := o4.below y6
          rw [List.append_assoc, ← SC.out] at o7
          go_roundw
          case rel => exact ⟨i + 1, a + q, g4, M + 2, e4, by omega, by go_num, by go_num, rfl, by rw [HM.out]; omega, HA2, fit2, s4w, o7, b6⟩
          case measure => simp [intOf]; omega
        · obtain rfl : n = i := by omega
          have t2 : decide ((n : Int) < (n : Int)) = false := decide_eq_false (by omega)
          have HM := hideIt hM
          clear HA ab hM
          go_wp2
          go_loopw [7, 12] (fun bb ii wr => ∃ (i a g cc : Nat), i ≤ n ∧ ii = .int .i64 (i : Int) ∧ bb = .slice (some ⟨g, 0, none⟩) a cc ∧ Hid (a = atT l i) ∧ a ≤ 4092 ∧ w.heap.size ≤ g ∧ OB wr g a cc (headT l ++ slT (m + 2 * n) p l n ++ ct p (l.take i)) ∧ Below w.heap.size w wr)
            (fun _ ii _ => n - (intOf ii).toNat)
          case atStart => exact ⟨0, M, g, cc, by omega, rfl, rfl, hideIt (by rw [HM.out]; unfold atT; rw [HHH.out, LN.out]; simp [ct]), by rw [HM.out]; omega, lg, by simpa [ct] using o, b⟩
          case round =>
            clear o b lg HM
            obtain ⟨i, a, g, cc, hi, rfl, rfl, HA, ab, lg, o, b⟩ := hrel
            by_cases hlt : i < n
            · obtain ⟨ad', ⟨A1, n1, c1⟩, ⟨A3, n3, c3⟩, x, e', hx, it, rk, rv⟩ := h.row i hlt
              cases e'
              simp only at rk rv
              have LX := hideIt (HOH.out.len x (List.mem_of_getElem? hx))
              have HX2 := hideIt (HOH.out.hold x (List.mem_of_getElem? hx))
              have px : p ≤ n1 := by rw [← rk.len, ← HP.out]; exact (preT_le l x (List.mem_of_getElem? hx)).2
              have fit := cellT_fit HOH.out i x hx
              obtain ⟨q, hq⟩ : ∃ q, (cellT p x).length = q := ⟨_, rfl⟩
              have fit2 : a + q ≤ 4092 := by rw [HA.out, ← hq, ← HP.out]; exact fit
              have HA2 : Hid (a + q = atT l (i + 1)) := hideIt (by
                rw [HA.out, ← hq, ← HP.out]; unfold atT; rw [ct_succ _ _ _ _ hx, List.length_append]; omega)
              have cs := ct_succ p l i x hx
              have CS := hideIt cs
              have HQ := hideIt hq
              have i1 : (i : Int) < (n : Int) := by omega
              obtain ⟨i0', i1', i2', i3'⟩ := it.below b
              simp only at i0' i1'
              have rk4 := rk.below b
              have rv4 := rv.below b
              clear fit hq cs hx it
              go_upto_region 25 with (go_at_call 62; (refine (refcell_calls _ _ _ _ _ _ x p q _ rk4 rv4 px LX.out HX2.out HQ.out).mono ?_); rintro en w6 ⟨g6, e6, rfl, s6, o6, y6⟩)
              have b6 := blw_step b y6
              have o7 := o.below y6
              have lo7 := o7.lt
              have n67 : g < g6 := Nat.lt_of_lt_of_le o.lt s6
              have s6w := Nat.le_trans b.size s6
              clear o y6 s6 b rk4 rv4 i0' i1' i2' i3' lo7
              go_wp2
              go_loopw [7, 14] (fun bb kk wk => ∃ (k g cc M : Nat), k ≤ q ∧ kk = .int .i64 (k : Int) ∧ bb = .slice (some ⟨g, 0, none⟩) M cc ∧ M = a + k ∧ w.heap.size ≤ g ∧ g ≠ g6 ∧ OB wk g M cc (headT l ++ slT (m + 2 * n) p l n ++ ct p (l.take i) ++ (cellT p x).take k) ∧ OB wk g6 q e6 (cellT p x) ∧ Below w.heap.size w wk)
                (fun _ kk _ => q - (intOf kk).toNat)
              case atStart => exact ⟨0, g, cc, a, by omega, rfl, rfl, by omega, lg, by omega, by simpa using o7, o6, b6⟩
              case round =>
                clear o6 o7 b6 lg n67
                obtain ⟨k, g, cc, M, hk, rfl, rfl, hM, lg, ne6, o, oc, b⟩ := hrel
                by_cases hlk : k < q
                · have cell := oc.cell k (by rw [HQ.out]; exact hlk)
                  have st := take_snocT (xs := cellT p x) (i := k) (by rw [HQ.out]; exact hlk)
                  have ST := hideIt st
                  obtain ⟨y, hy⟩ : ∃ y, (cellT p x)[k]'(by rw [HQ.out]; exact hlk) = y := ⟨_, rfl⟩
                  rw [hy] at ST cell
                  have ba := below1 wr (.cells #[.int .u8 (y.toNat : Int)] 5)
                  have o1 := o.below ba
                  have oc1 := oc.below ba
                  have r1 := one_cellT wr y
                  have b1 := blw_step b ba
                  have i3 : (k : Int) < (q : Int) := by omega
                  have HM := hideIt hM
                  have mb : M ≤ 10000 := by omega
                  have l6 := oc1.lt
                  clear st hy hM
                  go_wp2_with (with_reducible refine wpB_app2 rfl (.tmp 91) (.tmp 96) rfl _ _ _ _ rfl o1 _ _ _ _ rfl r1 (M + 1) rfl (by omega) ?_; intro g8 c8 w8 q8 o8)
                  have F8 := grown_new q8 b1 lg
                  have oc8 := oc1.same (sm_grown2 q8 l6 (Ne.symm ne6))
                  have ne8 : g8 ≠ g6 := by
                    rcases q8 with ⟨rfl, -, -⟩ | ⟨rfl, -⟩
                    · exact ne6
                    · omega
                  have o9 : OB w8 g8 (M + 1) c8 (headT l ++ slT (m + 2 * n) p l n ++ ct p (l.take i) ++ (cellT p x).take (k + 1)) := by
                    rw [ST.out, ← List.append_assoc]; exact o8
                  go_roundw
                  case rel => exact ⟨k + 1, g8, c8, M + 1, by omega, by go_num, rfl, by rw [HM.out]; omega, F8.1, ne8, o9, oc8, F8.2⟩
                  case measure => simp [intOf]; omega
                · obtain rfl : q = k := by omega
                  subst hM
                  have ek : (cellT p x).take q = cellT p x := List.take_of_length_le (by rw [HQ.out]; exact Nat.le_refl _)
                  rw [ek, List.append_assoc, ← CS.out] at o
                  have t3 : decide ((q : Int) < (q : Int)) = false := decide_eq_false (by omega)
                  go_wp2
                  go_roundw
                  case rel => exact ⟨i + 1, a + q, g, cc, by omega, by go_num, rfl, HA2, fit2, lg, o, b⟩
                  case measure => simp [intOf]; omega
            · obtain rfl : n = i := by omega
              have eU : headT l ++ slT (m + 2 * n) p l n ++ ct p (l.take n) = usedT l := by
                rw [HU.out, HHH.out, LN.out, HP.out, List.take_of_length_le (by rw [LN.out]; exact Nat.le_refl _)]
              rw [eU] at o
              have haZ : a = Z := by rw [← HUS.out]; exact o.len.symm
              have t3 : decide ((n : Int) < (n : Int)) = false := decide_eq_false (by omega)
              subst haZ
              clear HA eU HUS HU
              go_wp2
              go_loopw [7] (fun bb wk => ∃ (g cc M : Nat), a ≤ M ∧ M ≤ 4092 ∧ bb = .slice (some ⟨g, 0, none⟩) M cc ∧ w.heap.size ≤ g ∧ OB wk g M cc (usedT l ++ zer (M - a)) ∧ Below w.heap.size w wk)
                (fun bb _ => 4092 - lenOfS bb)
              case atStart => exact ⟨g, cc, a, Nat.le_refl _, ab, rfl, lg, by simpa [zer] using o, b⟩
              case round =>
                clear o b lg
                obtain ⟨g, cc, M, haM, hM, rfl, lg, o, b⟩ := hrel
                by_cases hlM : M < 4092
                · have ba := below1 wr (.cells #[.int .u8 0] 5)
                  have o1 := o.below ba
                  have r1 : RB (wr.alloc (.cells #[.int .u8 0] 5)) (some ⟨wr.heap.size, 0, none⟩) 1 1 [0] := one_cellT wr 0
                  have b1 := blw_step b ba
                  have i3 : (M : Int) < 4092 := by omega
                  have ez : zer (M + 1 - a) = zer (M - a) ++ [0] := by
                    unfold zer; rw [show M + 1 - a = M - a + 1 by omega, List.replicate_succ']
                  have EZ := hideIt ez
                  clear ez
                  go_wp2_with (with_reducible refine wpB_app2 rfl (.tmp 101) (.tmp 102) rfl _ _ _ _ rfl o1 _ _ _ _ rfl r1 (M + 1) rfl (by omega) ?_; intro g8 c8 w8 q8 o8)
                  have F8 := grown_new q8 b1 lg
                  have o9 : OB w8 g8 (M + 1) c8 (usedT l ++ zer (M + 1 - a)) := by
                    rw [EZ.out, ← List.append_assoc]; exact o8
                  go_roundw
                  case rel => exact ⟨g8, c8, M + 1, by omega, by omega, rfl, F8.1, o9, F8.2⟩
                  case measure => simp [lenOfS]; omega
                · obtain rfl : M = 4092 := by omega
                  rw [← HB.out] at o
                  go_wp2
                  go_ret2
                  exact ⟨g, cc, rfl, lg, o, b⟩
end Go.Proofs.Ytieoleiokjoccaa
