/- coppiceref4: common, long, tag, Size. -/
import Derived.Test.YtieoleiokjoccaaFc
import Derived.Test.YtieoleiokjoccaaSm
namespace Go.Proofs.Ytieoleiokjoccaa
open Go.RowKit

theorem RT.drew_ {w : World} {A : Option Addr} {n c : Nat} {vs : List Value} {l : List It} (h : RT w A n c vs l) (m : Nat) : RT (w.drewN m) A n c vs l := h.below ⟨rfl, rfl, rfl, Nat.le_refl _, fun _ _ => rfl⟩
theorem refLong_calls (s : Int) (w : World) :
    Calls Try.prog 39 #[.int .i64 s] w fun e w' => e = .returned (.int .i64 (clampT s : Nat)) ∧ w = w' := by
  by_cases h1 : s < 0
  · have e : ((clampT s : Nat) : Int) = 0 := by unfold clampT; omega
    rw [e]
    clear e
    go_enter Try.func39, Try.ntmps39
    go_wp2
    go_ret
    exact ⟨rfl, rfl⟩
  · have h1' : decide (s < 0) = false := decide_eq_false h1
    by_cases h2 : 262144 < s
    · have e : ((clampT s : Nat) : Int) = 262144 := by unfold clampT; omega
      rw [e]
      clear e h1
      go_enter Try.func39, Try.ntmps39
      go_wp2
      go_ret
      exact ⟨rfl, rfl⟩
    · have h2' : decide (262144 < s) = false := decide_eq_false h2
      have e : ((clampT s : Nat) : Int) = s := by unfold clampT; omega
      rw [e]
      clear e h1 h2
      go_enter Try.func39, Try.ntmps39
      go_wp2
      go_ret
      exact ⟨rfl, rfl⟩
theorem refTag_calls (s : Int) (w : World) :
    Calls Try.prog 38 #[.int .i64 s] w fun e w' => e = .returned (.int .u64 (tagT (clampT s) : Nat)) ∧ w = w' := by
  have LG := fun W => refLong_calls s W
  have cl := clampT_le s
  generalize clampT s = m at *
  by_cases h : 512 < m
  · have et : ((tagT m : Nat) : Int) = 2 * (m : Int) + 1 := by unfold tagT; rw [if_pos h]; omega
    have t1 : decide ((512 : Int) < (m : Int)) = true := decide_eq_true (by omega)
    have wu : IntKind.u64.wrap (2 * (m : Int) + 1) = 2 * (m : Int) + 1 := by rw [IntKind.wrap_u64]; omega
    rw [et]
    clear h et
    go_enter Try.func38, Try.ntmps38
    go_wp2_with (go_at_call 39; refine (LG _).mono ?_; rintro en wx ⟨rfl, rfl⟩)
    go_ret
    exact ⟨rfl, rfl⟩
  · have et : ((tagT m : Nat) : Int) = 2 * (m : Int) := by unfold tagT; rw [if_neg h]; omega
    have t1 : decide ((512 : Int) < (m : Int)) = false := decide_eq_false (by omega)
    have wu : IntKind.u64.wrap (2 * (m : Int)) = 2 * (m : Int) := by rw [IntKind.wrap_u64]; omega
    rw [et]
    clear h et
    go_enter Try.func38, Try.ntmps38
    go_wp2_with (go_at_call 39; refine (LG _).mono ?_; rintro en wx ⟨rfl, rfl⟩)
    go_ret
    exact ⟨rfl, rfl⟩

theorem foldT_step (x : List UInt8) (p : Nat) (l : List It) (i : Nat) (y : It) (h : l[i]? = some y) : (keysT (l.drop i)).foldl (fun n s => min n (Key.com x s)) p = (keysT (l.drop (i + 1))).foldl (fun n s => min n (Key.com x s)) (min p (Key.com x y.k)) := by
  obtain ⟨h1, e1⟩ := List.getElem?_eq_some_iff.1 h
  rw [List.drop_eq_getElem_cons h1, e1]; rfl
theorem RB.addr_eq {w : World} {A : Option Addr} {n c : Nat} {xs : List UInt8} (h : RB w A n c xs) (j : Nat) (hj : j < xs.length) : ∃ ad v, A = some ad ∧ xs[j] = v ∧ w.cell? (ad.add j) = some (.int .u8 (v.toNat : Int)) := by
  obtain ⟨ad, e, hc⟩ := h.at_ j hj
  exact ⟨ad, _, e, rfl, hc⟩

set_option maxRecDepth 100000 in
set_option maxHeartbeats 8000000 in
theorem common_calls (A : Option Addr) (n c : Nat) (vs : List Value) (l : List It) (w : World) (h : RT w A n c vs l) :
    Calls Try.prog 36 #[.slice A n c] w fun e w' => e = .returned (.int .i64 (preT l : Nat)) ∧ ∃ j, w' = w.drewN j := by
  have HL := hideIt h.len
  have mx := h.max
  by_cases h0 : n = 0
  · subst h0
    have : l = [] := List.eq_nil_of_length_eq_zero HL.out
    subst this
    go_enter Try.func36, Try.ntmps36
    go_wp2
    go_ret
    exact ⟨rfl, 0, rfl⟩
  · obtain ⟨ad, ⟨A0, n0, c0⟩, q0, x, rfl, hx, it0, r0, -⟩ := h.row 0 (by omega)
    have cell0 := it0.c0
    rw [Nat.zero_mul, Addr.add_zero'] at cell0
    simp only at cell0 r0
    have HX := hideIt r0.len
    have m0 : n0 ≤ 9223372036854775807 := by have h1 := RC.le r0; have h2 := RC.mx r0; rw [maxLen_is] at h2; omega
    obtain ⟨R, hR⟩ : ∃ R, preT l = R := ⟨_, rfl⟩
    have HR0 : Hid ((keysT (l.drop 1)).foldl (fun n s => min n (Key.com x.k s)) n0 = R) := hideIt (by
      rw [← hR, ← HX.out]
      unfold preT
      cases l with
      | nil => simp at hx
      | cons y t => simp at hx; subst hx; rfl)
    have i0 : (0 : Int) < (n : Int) := by omega
    have t0 : ((n : Int) == 0) = false := beq_eq_false_iff_ne.2 (by omega)
    have lc0 := World.block_lt_of_cell? w _ cell0
    rw [hR]
    clear hR hx it0
    go_enter Try.func36, Try.ntmps36
    go_wp2
    go_loopw [3, 4] (fun pp ii wr => ∃ (i p j : Nat), 1 ≤ i ∧ i ≤ n ∧ p ≤ n0 ∧ pp = .int .i64 (p : Int) ∧ ii = .int .i64 (i : Int) ∧ Hid ((keysT (l.drop i)).foldl (fun n s => min n (Key.com x.k s)) p = R) ∧ Hid (wr = w.drewN j))
      (fun _ ii _ => n - (intOf ii).toNat)
    case atStart => exact ⟨1, n0, 0, by omega, by omega, Nat.le_refl _, rfl, rfl, HR0, hideIt (by rfl)⟩
    case round =>
      clear HR0
      obtain ⟨i, p, j0, hi1, hi, hp, rfl, rfl, H, HW0⟩ := hrel
      by_cases hlt : i < n
      · obtain ⟨ad', ⟨Ai, ni, ci⟩, qi, y, e', hy, iti, ri, -⟩ := h.row i hlt
        cases e'
        have celli := iti.c0
        simp only at celli ri
        have st := foldT_step x.k p l i y hy
        rw [H.out] at st
        have HSL := hideIt ri.len
        have mi : ni ≤ 9223372036854775807 := by have h1 := RC.le ri; have h2 := RC.mx ri; rw [maxLen_is] at h2; omega
        obtain ⟨r, hr⟩ : ∃ r, Key.com x.k y.k = r := ⟨_, rfl⟩
        rw [hr] at st
        have ST := hideIt st.symm
        have HC : Hid (0 + Key.com (x.k.drop 0) (y.k.drop 0) = r) := hideIt (by simpa using hr)
        have i1 : (i : Int) < (n : Int) := by omega
        clear st hr H iti hy
        go_wp2
        go_loopw [5] (fun kk wk => ∃ (k j : Nat), k ≤ p ∧ k ≤ ni ∧ kk = .int .i64 (k : Int) ∧ Hid (k + Key.com (x.k.drop k) (y.k.drop k) = r) ∧ Hid (wk = w.drewN j))
          (fun kk _ => p - (intOf kk).toNat)
        case atStart => exact ⟨0, j0, by omega, by omega, rfl, HC, HW0⟩
        case round =>
          clear HC HW0 j0
          obtain ⟨k, j, hk, hkn, rfl, HC, HW⟩ := hrel
          have cs : wr.cell? (ad.add (i * 4)) = some (.slice Ai ni ci) := by rw [HW.out]; exact celli
          have c0' : wr.cell? ad = some (.slice A0 n0 c0) := by rw [HW.out]; exact cell0
          have rsj : RB wr Ai ni ci y.k := by rw [HW.out]; exact drewB ri j
          have r0j : RB wr A0 n0 c0 x.k := by rw [HW.out]; exact drewB r0 j
          have i2 : (p : Int) ≤ (n0 : Int) := by omega
          by_cases hkp : k < p
          · have t2 : decide (k < p) = true := decide_eq_true hkp
            have t2' : (k : Int) < (p : Int) := by omega
            by_cases hks : k < ni
            · have t3 : decide (k < ni) = true := decide_eq_true hks
              have t3' : (k : Int) < (ni : Int) := by omega
              have t4' : (k : Int) < (n0 : Int) := by omega
              have kx : k < x.k.length := by rw [HX.out]; omega
              have ks : k < y.k.length := by rw [HSL.out]; omega
              obtain ⟨adx, ads, vx, vy, e1, e2, ca, ca', -, -, he⟩ := two_cells r0j rsj k kx ks
              subst e1 e2
              have sc := Key.com_step x.k y.k k kx ks
              rw [HC.out] at sc
              by_cases e : vx = vy
              · rw [if_pos (he.1 e)] at sc
                have H3 := hideIt sc.symm
                have tv : (vy == vx) = true := by rw [e]; exact beq_self_eq_true _
                subst e
                clear sc he kx ks HC rsj r0j hkp hks
                go_wp2
                go_quiet (fail)
                go_wp2
                go_roundw
                case rel => exact ⟨k + 1, j + nq, by omega, by omega, by go_num, H3, hideIt (by rw [HW.out, World.drewN_drewN])⟩
                case measure => simp [intOf]; omega
              · rw [if_neg (fun q => e (he.2 q))] at sc
                have hmin : Hid (min p r = k) := hideIt (by omega)
                have tv : (vy == vx) = false := beq_eq_false_iff_ne.2 (fun q => e q.symm)
                rw [hmin.out] at ST
                clear sc he kx ks HC rsj r0j hkp hks e
                go_wp2
                go_quiet (fail)
                go_wp2
                go_roundw
                case rel => exact ⟨i + 1, k, j + nq, by omega, by omega, by omega, rfl, by go_num, ST, hideIt (by rw [HW.out, World.drewN_drewN])⟩
                case measure => simp [intOf]; omega
            · obtain rfl : ni = k := by omega
              have t3 : decide (ni < ni) = false := decide_eq_false (by omega)
              have t3' : decide ((ni : Int) < (ni : Int)) = false := decide_eq_false (by omega)
              have sc := Key.com_end x.k y.k ni (Or.inr HSL.out.symm)
              rw [HC.out] at sc
              have hmin : Hid (min p r = ni) := hideIt (by omega)
              rw [hmin.out] at ST
              clear sc HC rsj r0j hkp hks
              go_wp2
              go_quiet (fail)
              go_wp2
              go_roundw
              case rel => exact ⟨i + 1, ni, j + nq, by omega, by omega, by omega, rfl, by go_num, ST, hideIt (by rw [HW.out, World.drewN_drewN])⟩
              case measure => simp [intOf]; omega
          · obtain rfl : p = k := by omega
            have t2 : decide (p < p) = false := decide_eq_false (by omega)
            have t2' : decide ((p : Int) < (p : Int)) = false := decide_eq_false (by omega)
            have hmin : Hid (min p r = p) := hideIt (by have := HC.out; omega)
            rw [hmin.out] at ST
            clear HC rsj r0j hkp
            go_wp2
            go_quiet (fail)
            go_wp2
            go_roundw
            case rel => exact ⟨i + 1, p, j + nq, by omega, by omega, by omega, rfl, by go_num, ST, hideIt (by rw [HW.out, World.drewN_drewN])⟩
            case measure => simp [intOf]; omega
      · obtain rfl : n = i := by omega
        have hp2 : p = R := by
          rw [← H.out, List.drop_of_length_le (by rw [HL.out]; exact Nat.le_refl _)]; rfl
        subst hp2
        clear H
        go_wp2
        go_ret
        exact ⟨rfl, j0, HW0.out⟩
end Go.Proofs.Ytieoleiokjoccaa
