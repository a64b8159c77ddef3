/- coppicelaw5.vlen, coppicelaw5.BranchLaid. -/
import Derived.Test.YthboanaogfmefaaQf
import Derived.Test.YthboanaogfmefaaSt
namespace Go.Proofs.Ythboanaogfmefaa
open Go.RowKit

set_option maxHeartbeats 1000000 in
theorem vlen_calls (x : Nat) (w : World) (hx : x ≤ 1000000) : Calls Try.prog 34 #[.int .i64 (x : Int)] w fun e w' => e = .returned (.int .i64 (vl x : Nat)) ∧ w = w' := by
  obtain ⟨T, hT⟩ : ∃ T, vl x = T := ⟨_, rfl⟩
  rw [hT]
  have H0 : Hid (1 + (vF 9 x).length = T + 1) := hideIt (by rw [← hT]; unfold vl; omega)
  have h2 : Hid (x < 128 ^ 9) := hideIt (Nat.lt_of_le_of_lt hx (by decide))
  clear hT
  go_enter Try.func34, Try.ntmps34
  go_wp2
  go_loop [0, 3] (fun xx nn => ∃ k y n : Nat, k ≤ 9 ∧ y ≤ 1000000 ∧ n + k ≤ 10 ∧ 1 ≤ n ∧ xx = .int .i64 (y : Int) ∧ nn = .int .i64 (n : Int) ∧ Hid (n + (vF k y).length = T + 1) ∧ Hid (y < 128 ^ k)) (fun xx _ => (intOf xx).toNat)
  case atStart => exact ⟨9, x, 1, by omega, hx, by omega, by omega, rfl, rfl, H0, h2⟩
  case round =>
    clear H0 h2
    obtain ⟨k, y, n, hk, hy, hn, hn1, rfl, rfl, H, HP⟩ := hrel
    by_cases hlt : 128 ≤ y
    · have t1 : decide ((128 : Int) ≤ (y : Int)) = true := decide_eq_true (by omega)
      rcases Nat.eq_zero_or_pos k with h0 | h0
      · subst h0
        have := HP.out
        simp at this
        omega
      obtain ⟨j, rfl⟩ : ∃ j, k = j + 1 := ⟨k - 1, by omega⟩
      have H' : Hid (n + 1 + (vF j (y / 128)).length = T + 1) := hideIt (by
        have := H.out
        rw [vF_big _ _ hlt, List.length_cons] at this
        omega)
      have HP' : Hid (y / 128 < 128 ^ j) := hideIt (by
        have := HP.out
        rw [Nat.pow_succ] at this
        exact Nat.div_lt_of_lt_mul (by omega))
      clear H HP
      go_wp2
      go_round
      case rel => exact ⟨j, y / 128, n + 1, by omega, by omega, by omega, by omega, by go_num, by go_num, H', HP'⟩
      case measure => simp [intOf]; omega
    · have t1 : decide ((128 : Int) ≤ (y : Int)) = false := decide_eq_false (by omega)
      have hT : n = T := by
        have := H.out
        rw [vF_small _ _ (by omega)] at this
        simpa using this
      subst hT
      clear H HP
      go_wp2
      go_ret
      exact ⟨rfl, rfl⟩

/-- where an append onto fresh memory ended: it is fresh, and nothing old has changed. -/
theorem grown_fresh {w w2 w3 : World} {g2 g3 : Nat} (q : (g3 = g2 ∧ w2.grownBy w3 (some g2)) ∨ (g3 = w2.heap.size ∧ w2.grownBy w3 none)) (x2 : Below w.heap.size w w2) (s2 : w.heap.size ≤ g2) : w.heap.size ≤ g3 ∧ Below w.heap.size w w3 := by
  rcases q with ⟨rfl, k⟩ | ⟨rfl, k⟩
  · exact ⟨s2, blw_own x2 k x2.size s2⟩
  · exact ⟨x2.size, x2.trans (below_of_grown k x2.size (by simp))⟩

set_option maxRecDepth 100000 in
set_option maxHeartbeats 8000000 in
theorem BranchLaid_walk (A : Option Addr) (n c : Nat) (vs : List Value) (l : List (List UInt8)) (B : Option Addr) (m d : Nat) (ah : List UInt8) (w : World) (h : RM w A n c vs l) (ha : RB w B m d ah) (_y : m ≤ 140737488351232) :
    Calls Try.prog 11 #[.slice A n c, .slice B m d] w fun e w' => e = .returned (.bool true) ∧ Below w.heap.size w w' := by
  have FW := fun W q => few_calls A n c vs l none 0 0 W q
  obtain ⟨f, hf⟩ : ∃ f, fewS l 0 = f := ⟨_, rfl⟩
  rw [hf] at FW
  have HF := hideIt hf
  clear hf
  have HL := hideIt h.len
  have HA := hideIt ha.len
  go_enter Try.func11, Try.ntmps11
  go_upto_region 2 with (go_at_call 12; refine (first_calls _).mono ?_; rintro en w1 ⟨rfl, b1⟩)
  have h1 := h.below b1
  have ha1 := ha.below b1
  clear h ha
  cases f
  · go_wp2_with (go_at_call 13; refine (FW _ h1).mono ?_; rintro en wx ⟨rfl, rfl⟩)
    go_ret
    exact ⟨rfl, b1⟩
  have ff := few_few HF.out h1.len
  have n7 := ff.n
  rcases Nat.eq_zero_or_pos n with hn | hn
  · subst hn
    go_wp2_with (go_at_call 13; refine (FW _ h1).mono ?_; rintro en wx ⟨rfl, rfl⟩)
    go_ret
    exact ⟨rfl, b1⟩
  have t0 : ((n : Int) == 0) = false := beq_eq_false_iff_ne.2 (by omega)
  by_cases hm : m ≤ 1000
  · have t1 : decide ((1000 : Int) < (m : Int)) = false := decide_eq_false (by omega)
    obtain ⟨ad, A0, n0, c0, x, rfl, hx, cell0, r0⟩ := h1.row 0 hn
    rw [Addr.add_zero'] at cell0
    have S4 := (few_of HF.out).2.2
    have n0l : n0 ≤ 4096 := by rw [← r0.len]; exact S4 x (List.mem_of_getElem? hx)
    have H4 := hideIt S4
    have HX := hideIt r0.len
    obtain ⟨R, hR⟩ : ∃ R, Key.comAll l = R := ⟨_, rfl⟩
    have HR0 : Hid ((l.drop 0).foldl (fun n s => min n (Key.com x s)) n0 = R) := hideIt (by
      rw [← hR, List.drop_zero, ← r0.len]
      cases l with
      | nil => simp at hx
      | cons y t => simp at hx; subst hx; exact (comAll_head y t).symm)
    have HRR := hideIt hR
    have HNE : Hid (l ≠ []) := hideIt (by rintro rfl; simp at hx)
    have lc0 := World.block_lt_of_cell? w1 _ cell0
    clear S4 hx hR
    go_upto_region 4 with (go_at_call 13; refine (FW _ h1).mono ?_; rintro en wx ⟨rfl, rfl⟩)
    clear FW
    go_wp2
    go_loopw [6, 7, 8] (fun pp ll ii wr => ∃ (i p c3 : Nat) (A3 : Option Addr) (ps : List (Option Addr × Nat × Nat)), i ≤ n ∧ p ≤ n0 ∧ pp = .int .i64 (p : Int) ∧ ll = .slice A3 i c3 ∧ ii = .int .i64 (i : Int) ∧ OM wr w1.heap.size A3 i c3 ps ((l.take i).map (ah ++ ·)) ∧ Hid ((l.drop i).foldl (fun n s => min n (Key.com x s)) p = R) ∧ Below w1.heap.size w1 wr)
      (fun _ _ ii _ => n - (intOf ii).toNat)
    case atStart => exact ⟨0, n0, 0, none, [], by omega, Nat.le_refl _, rfl, rfl, rfl, OM.nil _ _, HR0, Below.refl _ _⟩
    case round =>
      clear HR0
      obtain ⟨i, p, c3, A3, ps, hi, hp, rfl, rfl, rfl, om, H, bw⟩ := hrel
      by_cases hlt : i < n
      · obtain ⟨ad', Ai, ni, ci, s, e', hs, celli, rs⟩ := h1.row i hlt
        cases e'
        have lci := World.block_lt_of_cell? w1 _ celli
        have st := fold_step x p l i s hs
        rw [H.out] at st
        have STK : Hid ((l.take (i + 1)).map (ah ++ ·) = (l.take i).map (ah ++ ·) ++ [ah ++ s]) := hideIt (by rw [List.take_add_one, hs]; simp)
        have HSL := hideIt rs.len
        have nil_ : ni ≤ 4096 := by rw [← rs.len]; exact H4.out s (List.mem_of_getElem? hs)
        have i1 : (i : Int) < (n : Int) := by omega
        have HLO := hideIt om.lt
        have bd : Below w1.heap.size w1 wr.drew := bw.drew
        have omd := om.below (drew1 wr)
        have celld := (bd.cell (p := ad.add i) lci).trans celli
        have had := ha1.below bd
        have zr : w1.heap.size ≤ wr.drew.heap.size := bd.size
        have ST := hideIt st.symm
        clear st hs H om bw
        go_upto_region 9 with fail
        go_region_held3 (fun w' => w'.cell? (ad.add i) = some (.slice Ai ni ci)) (first | exact celld | exact cell2 | exact cell3 | exact cell4 | exact cell5 | go_keep)
          (first
            | (refine stepM_app rfl (.tmp 40) (.tmp 48) rfl w1.heap.size _ _ _ _ rfl om4.row _ (some ⟨g3, 0, none⟩, m + ni, c3') rfl R4 (by omega) b4.size ?_; intro g5 c5 w5 q5 o5 k5; have b5 := GC.under om4.row b4 k5 b4.size; have cell5 := (b5.cell (p := ad.add i) lci).trans celli)
            | (refine stepB_app rfl (.tmp 42) (.tmp 46) rfl _ _ _ _ rfl o2 _ _ _ _ rfl rs2 (m + ni) rfl (by omega) ?_; intro g3 c3' w3 q3 o3; have F3 := grown_fresh q3 x2 s2; have x3 := F3.2; have b3 := blw_step bd x3; have cell3 := (b3.cell (p := ad.add i) lci).trans celli; have ba := below1 w3 (.cells #[.slice (some ⟨g3, 0, none⟩) (m + ni) c3'] 28); have om4 := (omd.below x3).below ba; have b4 := blw_step b3 ba; have cell4 := (b4.cell (p := ad.add i) lci).trans celli; have R4 := sv_cell w3 (some ⟨g3, 0, none⟩, m + ni, c3'); have S4 := (GB.of o3 F3.1).below ba)
            | (go_at_call 33; (with_reducible refine (Bytes_calls _ _ _ _ _ had (by omega)).mono ?_); rintro en w2 ⟨g2, c2, rfl, s2, o2, x2⟩; have b2 := blw_step bd x2; have cell2 := (b2.cell (p := ad.add i) lci).trans celli; have rs2 := rs.below b2))
        have om5 := om4.push S4 HLO.out zr k5 o5 q5
        rw [← STK.out] at om5
        clear om4 S4 k5 o5 q5 R4 b4 cell2 cell3 cell4 cell5 omd celld had rs2 F3 x3 b3 x2 o2 o3 q3 s2 b2
        go_wp2
        obtain ⟨r, hr⟩ : ∃ r, Key.com x s = r := ⟨_, rfl⟩
        rw [hr] at ST
        have HC : Hid (0 + Key.com (x.drop 0) (s.drop 0) = r) := hideIt (by simpa using hr)
        clear hr
        go_loopw [9] (fun kk wk => ∃ (k j : Nat), k ≤ p ∧ k ≤ ni ∧ kk = .int .i64 (k : Int) ∧ Hid (k + Key.com (x.drop k) (s.drop k) = r) ∧ Hid (wk = w5.drewN j))
          (fun kk _ => p - (intOf kk).toNat)
        case atStart => exact ⟨0, 0, by omega, by omega, rfl, HC, hideIt (by rfl)⟩
        case round =>
          clear HC
          obtain ⟨k, j, hk, hkn, rfl, HC, HW⟩ := hrel
          have bj : Below w1.heap.size w1 wr := below_at (below_drewN b5 j) HW.out
          have omj := om5.below (below_at (below_drewN (Below.refl w5.heap.size w5) j) HW.out)
          have cs := (bj.cell (p := ad.add i) lci).trans celli
          have c0' := (bj.cell (p := ad) lc0).trans cell0
          have rsj := rs.below bj
          have r0j := r0.below bj
          have i2 : (p : Int) ≤ (n0 : Int) := by omega
          have i00 : (0 : Int) < (n : Int) := by omega
          by_cases hkp : k < p
          · have t2 : decide (k < p) = true := decide_eq_true hkp
            have t2' : (k : Int) < (p : Int) := by omega
            by_cases hks : k < ni
            · have t3 : decide (k < ni) = true := decide_eq_true hks
              have t3' : (k : Int) < (ni : Int) := by omega
              have t4' : (k : Int) < (n0 : Int) := by omega
              have kx : k < x.length := by rw [HX.out]; omega
              have ks : k < s.length := by rw [HSL.out]; omega
              obtain ⟨adx, ads, vx, vy, e1, e2, ca, ca', -, -, he⟩ := two_cells r0j rsj k kx ks
              subst e1 e2
              have sc := Key.com_step x s k kx ks
              rw [HC.out] at sc
              by_cases e : vx = vy
              · rw [if_pos (he.1 e)] at sc
                have H3 := hideIt sc.symm
                have tv : (vy == vx) = true := by rw [e]; exact beq_self_eq_true _
                subst e
                clear sc he kx ks HC rsj r0j hkp hks
                go_wp2
                go_quiet (fail)
                go_wp2
                go_roundw
                case rel => exact ⟨k + 1, j + nq, by omega, by omega, by go_num, H3, hideIt (by rw [HW.out, World.drewN_drewN])⟩
                case measure => simp [intOf]; omega
              · rw [if_neg (fun q => e (he.2 q))] at sc
                have hmin : Hid (min p r = k) := hideIt (by omega)
                have tv : (vy == vx) = false := beq_eq_false_iff_ne.2 (fun q => e q.symm)
                rw [hmin.out] at ST
                clear sc he kx ks HC rsj r0j hkp hks e
                go_wp2
                go_quiet (fail)
                go_wp2
                go_roundw
                case rel => exact ⟨i + 1, k, _, _, _, by omega, by omega, rfl, rfl, by go_num, omj.below (below_drewN (Below.refl _ _) nq), ST, below_drewN bj nq⟩
                case measure => simp [intOf]; omega
            · obtain rfl : ni = k := by omega
              have t3 : decide (ni < ni) = false := decide_eq_false (by omega)
              have t3' : decide ((ni : Int) < (ni : Int)) = false := decide_eq_false (by omega)
              have sc := Key.com_end x s ni (Or.inr HSL.out.symm)
              rw [HC.out] at sc
              have hmin : Hid (min p r = ni) := hideIt (by omega)
              rw [hmin.out] at ST
              clear sc HC rsj r0j hkp hks
              go_wp2
              go_quiet (fail)
              go_wp2
              go_roundw
              case rel => exact ⟨i + 1, ni, _, _, _, by omega, by omega, rfl, rfl, by go_num, omj.below (below_drewN (Below.refl _ _) nq), ST, below_drewN bj nq⟩
              case measure => simp [intOf]; omega
          · obtain rfl : p = k := by omega
            have t2 : decide (p < p) = false := decide_eq_false (by omega)
            have t2' : decide ((p : Int) < (p : Int)) = false := decide_eq_false (by omega)
            have hmin : Hid (min p r = p) := hideIt (by have := HC.out; omega)
            rw [hmin.out] at ST
            clear HC rsj r0j hkp
            go_wp2
            go_quiet (fail)
            go_wp2
            go_roundw
            case rel => exact ⟨i + 1, p, _, _, _, by omega, by omega, rfl, rfl, by go_num, omj.below (below_drewN (Below.refl _ _) nq), ST, below_drewN bj nq⟩
            case measure => simp [intOf]; omega
      · obtain rfl : n = i := by omega
        have hp2 : p = R := by
          have := H.out
          rw [List.drop_of_length_le (by rw [HL.out]; exact Nat.le_refl _)] at this
          exact this
        subst hp2
        have ht : l.take n = l := List.take_of_length_le (by rw [HL.out]; exact Nat.le_refl _)
        rw [ht] at om
        have SZ := size_ahead ah l HNE.out
        rw [HRR.out, HA.out] at SZ
        have FA : Few n (l.map (ah ++ ·)) := ⟨n7, fun y hy => by
          obtain ⟨s, hs, rfl⟩ := List.mem_map.1 hy
          have := H4.out s hs
          rw [List.length_append, HA.out]; omega⟩
        have S1 := Size_calls _ _ _ _ _ _ om.read FA
        have S2 := fun W q => Size_calls (some ad) n c vs l W q ff
        have hw := h1.below bw
        have z1 : vl (m + p) ≤ 10 := (vl_bounds _).2
        have z2 : 1 ≤ vl (m + p) := (vl_bounds _).1
        have z3 : vl p ≤ 10 := (vl_bounds _).2
        have z4 : 1 ≤ vl p := (vl_bounds _).1
        have szl : sizeS l ≤ 701400000 * 2 := by
          unfold sizeS
          have := ff.sum HL.out (Key.comAll l)
          have := ff.pre
          have := (vl_bounds (Key.comAll l)).2
          omega
        have V1 := fun W => vlen_calls (p + m) W (by omega)
        have V2 := fun W => vlen_calls p W (by omega)
        rw [Nat.add_comm p m] at V1
        obtain ⟨v1, hv1⟩ : ∃ v1, vl (m + p) = v1 := ⟨_, rfl⟩
        obtain ⟨v2, hv2⟩ : ∃ v2, vl p = v2 := ⟨_, rfl⟩
        rw [hv1] at V1 SZ z1 z2
        rw [hv2] at V2 SZ z3 z4
        generalize sizeS (l.map (ah ++ ·)) = Y at S1 SZ
        generalize sizeS l = Z at S2 SZ szl
        have b3 := blw_step b1 bw
        have e1 : ((m + p : Nat) : Int) = (p : Int) + (m : Int) := by omega
        rw [e1] at V1
        have e2 : ((Y : Int) == (Z : Int) + (m : Int) + ((v1 : Int) - (v2 : Int))) = true := by rw [beq_iff_eq]; omega
        clear H hv1 hv2 SZ om FA bw h1 ht HRR HNE HF H4 r0 cell0 lc0 e1 ff
        go_upto_region 15 with (first
          | (go_at_call 34; (with_reducible refine (V1 _).mono ?_); rintro en wx ⟨rfl, rfl⟩)
          | (go_at_call 34; (with_reducible refine (V2 _).mono ?_); rintro en wx ⟨rfl, rfl⟩))
        go_wp2_with (first
          | (go_at_call 15; (with_reducible refine (S2 _ h9).mono ?_); rintro en w9 ⟨rfl, x9⟩; have b9 := blw_step b8 x9)
          | (go_at_call 15; (with_reducible refine S1.mono ?_); rintro en w8 ⟨rfl, x8⟩; have h9 := hw.below x8; have b8 := blw_step b3 x8))
        go_ret
        exact ⟨rfl, b9⟩
  · have t1 : decide ((1000 : Int) < (m : Int)) = true := decide_eq_true (by omega)
    clear hm
    go_wp2_with (go_at_call 13; refine (FW _ h1).mono ?_; rintro en wx ⟨rfl, rfl⟩)
    go_ret
    exact ⟨rfl, b1⟩
end Go.Proofs.Ythboanaogfmefaa
