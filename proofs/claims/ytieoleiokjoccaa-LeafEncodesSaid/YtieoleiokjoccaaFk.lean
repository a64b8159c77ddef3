/- coppiceref4: Size, holds, Wrong. -/
import Derived.Test.YtieoleiokjoccaaFj
import Derived.Test.YtieoleiokjoccaaFd
namespace Go.Proofs.Ytieoleiokjoccaa
open Go.RowKit

theorem quiet_eq {P : Program} {f : FuncId} {args : Array Value} {w : World} {v : Value} (h : Calls P f args w fun e w' => e = .returned v ∧ w = w') : Calls P f args w fun e w' => e = .returned v ∧ w' = w :=
  h.mono fun _ _ ⟨a, b⟩ => ⟨a, b.symm⟩
theorem refVLenT (x : Nat) (w : World) (hx : x ≤ 1000000) : Calls Try.prog 37 #[.int .u64 (x : Int)] w fun e w' => e = .returned (.int .i64 (vl x : Nat)) ∧ w = w' := refVLen_calls x w (by omega)

set_option maxRecDepth 100000 in
set_option maxHeartbeats 8000000 in
theorem refSize_calls (A : Option Addr) (n c : Nat) (vs : List Value) (l : List It) (w : World) (h : RT w A n c vs l) (hf : FewT n l) :
    Calls Try.prog 17 #[.slice A n c] w fun e w' => e = .returned (.int .i64 (sizeT l : Nat)) ∧ ∃ j, w' = w.drewN j := by
  have HL := hideIt h.len
  have n7 := hf.n
  have hp := hf.pre
  have hsum := hf.sum h.len
  have HM := hideIt (fun x (hs : x ∈ l) => And.intro (preT_le l x hs).2 (hf.s x hs))
  obtain ⟨r, hr⟩ : ∃ r, sizeT l = r := ⟨_, rfl⟩
  have hS : 3 + vl (preT l) + preT l + sumT (preT l) l = r := hr
  rw [hr]
  have CA := fun W q => common_calls A n c vs l W q
  generalize preT l = p at *
  have vb := (vl_bounds p).2
  have sl := hsum p
  have VP := fun W => refVLenT p W (by omega)
  have up := u64_wrap p (by omega)
  generalize vl p = v at *
  have HS := hideIt hS
  clear hS hr hsum
  go_enter Try.func17, Try.ntmps17
  go_upto_region 3 with (first
    | (go_at_call 37; refine (VP _).mono ?_; rintro en wx ⟨rfl, rfl⟩)
    | (go_at_call 36; refine (CA _ h).mono ?_; rintro en w1 ⟨rfl, j1, h1⟩; have H1 := hideIt h1; clear h1))
  clear VP up CA
  go_wp2
  go_loopw [4, 5] (fun nn ii wr => ∃ (i N j : Nat), i ≤ n ∧ ii = .int .i64 (i : Int) ∧ nn = .int .i64 (N : Int) ∧ Hid (N = 3 + v + p + sumT p (l.take i)) ∧ N ≤ 3 + v + p + 737400000 ∧ Hid (wr = w.drewN j))
    (fun _ ii _ => n - (intOf ii).toNat)
  case atStart => exact ⟨0, 3 + v + p, j1, by omega, rfl, by go_num, hideIt (by simp [sumT]), by omega, H1⟩
  case round =>
    clear H1
    obtain ⟨i, N, j, hi, rfl, rfl, HN, Nb, HW⟩ := hrel
    by_cases hlt : i < n
    · have hr1 : RT wr A n c vs l := by rw [HW.out]; exact h.drew_ j
      obtain ⟨ad, ⟨A1, n1, c1⟩, ⟨A3, n3, c3⟩, x, rfl, hx, ⟨i0, i1, i2, i3⟩, rk, -⟩ := hr1.row i hlt
      simp only at i0 i1 rk
      have hsl := rk.len
      have hm := HM.out x (List.mem_of_getElem? hx)
      have st := sumT_step p l i x hx
      have le := sumT_take_le p l (i + 1)
      obtain ⟨d, hd⟩ : ∃ d, n1 - p = d := ⟨_, rfl⟩
      have hd2 : (n1 : Int) - (p : Int) = (d : Int) := by omega
      have ud := u64_wrap d (by omega)
      have VD := fun W => quiet_eq (refVLenT d W (by omega))
      have db := (vl_bounds d).2
      have hpart : partT p x = 2 + vl d + d + vl (tagT (clampT x.s)) + inT (clampT x.s) := by unfold partT; rw [hsl, hd]
      rw [hpart] at st
      rw [st] at le
      have cl := clampT_le x.s
      have TG := fun W => quiet_eq (refTag_calls x.s W)
      have LG := fun W => refLong_calls x.s W
      generalize clampT x.s = q at *
      have tq := tagT_le q cl
      have VT := fun W => quiet_eq (refVLenT (tagT q) W (by omega))
      have tb := (vl_bounds (tagT q)).2
      have ib := inT_le q
      obtain ⟨z, hz⟩ : ∃ z, inT q = z := ⟨_, rfl⟩
      unfold inT at hz
      rw [show inT q = z from hz] at st le ib
      generalize tagT q = tg at *
      generalize vl tg = vt at *
      generalize vl d = u at *
      have ST := hideIt st
      have NN := HN.out
      have dl : d ≤ 10000 := by omega
      have pn : p ≤ n1 := by omega
      have nl : n1 ≤ 10000 := by omega
      have Nb2 : N + (2 + u + d + vt + z) ≤ 3 + v + p + 737400000 := by omega
      have j1 : (i : Int) < (n : Int) := by omega
      clear hm st le hd hpart hx hsl NN hr1 rk
      go_wp2
      go_quiet (first
        | (go_at_call 38; exact Calls.quiet_of_same (TG _))
        | (go_at_call 37; (with_reducible exact Calls.quiet_of_same (VD _)))
        | (go_at_call 37; (with_reducible exact Calls.quiet_of_same (VT _))))
      have HW2 : Hid (wr.drewN nq = w.drewN (j + nq)) := hideIt (by rw [HW.out, World.drewN_drewN])
      by_cases hq : 512 < q
      · have hz2 : z = 4 := by rw [← hz, if_pos hq]
        have hc : decide (512 < (q : Int)) = true := decide_eq_true (by omega)
        subst hz2
        clear hz hq
        go_wp2_with (go_at_call 39; refine (LG _).mono ?_; rintro en wx ⟨rfl, rfl⟩)
        go_roundw
        case rel => exact ⟨i + 1, N + (2 + u + d + vt + 4), j + nq, by omega, by go_num, congrArg (Value.int .i64) (by omega), hideIt (by rw [HN.out, ST.out]; omega), Nb2, HW2⟩
        case measure => simp [intOf]; omega
      · have hz2 : q = z := by rw [← hz, if_neg hq]
        have hc : decide (512 < (q : Int)) = false := decide_eq_false (by omega)
        subst hz2
        clear hz hq
        go_wp2_with (go_at_call 39; refine (LG _).mono ?_; rintro en wx ⟨rfl, rfl⟩)
        go_roundw
        case rel => exact ⟨i + 1, N + (2 + u + d + vt + q), j + nq, by omega, by go_num, congrArg (Value.int .i64) (by omega), hideIt (by rw [HN.out, ST.out]; omega), Nb2, HW2⟩
        case measure => simp [intOf]; omega
    · obtain rfl : n = i := by omega
      have et : l.take n = l := List.take_of_length_le (by rw [HL.out]; exact Nat.le_refl _)
      rw [et, HS.out] at HN
      obtain rfl := HN.out
      go_wp2
      go_ret
      exact ⟨rfl, j, HW.out⟩
theorem less_eq (a b : List UInt8) : Op.bytesLess a b = decide (Key.cmpB a b < 0) := by
  induction a generalizing b with
  | nil =>
    rw [Key.cmpB_nil]
    cases b <;> simp [Op.bytesLess]
  | cons x a ih =>
    cases b with
    | nil => rw [Key.cmpB_nil']; simp [Op.bytesLess]
    | cons y b =>
      rw [Key.cmpB_cons, Op.bytesLess, ih b]
      by_cases h1 : x < y
      · rw [if_pos h1]; simp [h1]
      · rw [if_neg h1]
        by_cases h2 : y < x
        · rw [if_pos h2]
          have h3 : (x == y) = false := beq_eq_false_iff_ne.2 (fun q => Key.u8_irr y (q ▸ h2))
          simp [h1, h3]
        · rw [if_neg h2]
          have := Key.u8_eq h1 h2
          subst this
          simp [h1]
set_option maxHeartbeats 400000 in
theorem Less_calls (A A' : Option Addr) (n c n' c' : Nat) (xs ys : List UInt8) (w : World) (h : RB w A n c xs) (h' : RB w A' n' c' ys) :
    Calls Try.prog 55 #[.slice A n c, .slice A' n' c'] w fun e w' => e = .returned (.bool (decide (Key.cmpB xs ys < 0))) ∧ w' = w := by
  have k1 := conv_str (P := Try.prog) (src := 34) (dst := 9) w Try.underlying34 Try.underlying5 Try.underlying9 h
  have k2 := conv_str (P := Try.prog) (src := 34) (dst := 9) w Try.underlying34 Try.underlying5 Try.underlying9 h'
  rw [← less_eq]
  have e1 : (⟨xs.toArray⟩ : ByteArray).toList = xs := by rw [ByteArray.toList_eq]
  have e2 : (⟨ys.toArray⟩ : ByteArray).toList = ys := by rw [ByteArray.toList_eq]
  obtain ⟨t, ht⟩ : ∃ t, Op.bytesLess xs ys = t := ⟨_, rfl⟩
  have hs : Op.bytesLess (⟨xs.toArray⟩ : ByteArray).toList (⟨ys.toArray⟩ : ByteArray).toList = t := by rw [e1, e2]; exact ht
  rw [ht]
  clear e1 e2 ht
  generalize (⟨xs.toArray⟩ : ByteArray) = s1 at k1 hs
  generalize (⟨ys.toArray⟩ : ByteArray) = s2 at k2 hs
  go_enter Try.func55, Try.ntmps55
  go_wp2
  go_ret
  exact ⟨ret_bool1 (by simp [*]), rfl⟩


theorem holds_calls (A1 A3 : Option Addr) (n1 c1 n3 c3 : Nat) (x : It) (w : World) (hv : x.v.length = n3) :
    Calls Try.prog 54 #[.agg #[.slice A1 n1 c1, .slice A3 n3 c3, .int .i64 x.s, .int .i64 x.f]] w fun e w' => e = .returned (.bool (holdT x)) ∧ Below w.heap.size w w' := by
  have ba := below1 w (.cells #[.slice A1 n1 c1, .slice A3 n3 c3, .int .i64 x.s, .int .i64 x.f] 48)
  obtain ⟨b1, hb1⟩ : ∃ b, ((n3 : Int) == x.s) = b := ⟨_, rfl⟩
  obtain ⟨b2', hb2⟩ : ∃ b, (x.f == 0) = b := ⟨_, rfl⟩
  obtain ⟨b3, hb3⟩ : ∃ b, ((n3 : Int) == 0) = b := ⟨_, rfl⟩
  obtain ⟨b4, hb4⟩ : ∃ b, decide (2 ≤ x.f) = b := ⟨_, rfl⟩
  obtain ⟨b5, hb5⟩ : ∃ b, decide (x.f < 524287) = b := ⟨_, rfl⟩
  obtain ⟨ch, hch⟩ : ∃ b, decide (512 < x.s) = b := ⟨_, rfl⟩
  have hso : holdT x = (if ch then (b3 && (b4 && b5)) else (b1 && b2')) := by
    rw [← hb1, ← hb2, ← hb3, ← hb4, ← hb5, ← hch]
    unfold holdT
    rw [hv]
    by_cases z : 512 < x.s
    · rw [if_pos z, if_pos (decide_eq_true z), Bool.eq_iff_iff]
      simp only [decide_eq_true_eq, Bool.and_eq_true, beq_iff_eq]
      omega
    · rw [if_neg z, if_neg (by simp [z]), Bool.eq_iff_iff]
      simp only [decide_eq_true_eq, Bool.and_eq_true, beq_iff_eq]
  rw [hso]
  clear hso hv
  cases ch
  · simp only [Bool.false_eq_true, if_false]
    cases b1 <;> cases b2'
    all_goals
      go_enter Try.func54, Try.ntmps54
      go_wp2
      go_ret
      exact ⟨rfl, ba⟩
  · simp only [if_true]
    cases b3 <;> cases b4 <;> cases b5
    all_goals
      go_enter Try.func54, Try.ntmps54
      go_wp2
      go_ret
      exact ⟨rfl, ba⟩

set_option maxRecDepth 100000 in
set_option maxHeartbeats 8000000 in
theorem Wrong_calls (A : Option Addr) (n c : Nat) (vs : List Value) (l : List It) (w : World) (h : RT w A n c vs l) :
    Calls Try.prog 28 #[.slice A n c] w fun e w' => e = .returned (.int .i64 (wrongT l)) ∧ Below w.heap.size w w' := by
  have HL := hideIt h.len
  have mx := h.max
  by_cases h0 : n = 0
  · have : wrongT l = 40 := by unfold wrongT; rw [if_pos (by rw [HL.out, h0])]
    rw [this]
    subst h0
    go_enter Try.func28, Try.ntmps28
    go_wp2
    go_ret
    exact ⟨rfl, Below.refl _ _⟩
  · rw [wrongT_wt (by rw [HL.out]; exact h0)]
    obtain ⟨r1, hr1⟩ : ∃ r, l.all lenOk = r := ⟨_, rfl⟩
    obtain ⟨r2, hr2⟩ : ∃ r, l.all holdT = r := ⟨_, rfl⟩
    obtain ⟨r3, hr3⟩ : ∃ r, sorted (keysT l) = r := ⟨_, rfl⟩
    rw [hr1, hr2, hr3]
    have H1 : Hid ((l.drop 0).all lenOk = r1) := hideIt hr1
    have H2 : Hid ((l.drop 0).all holdT = r2) := hideIt hr2
    have H3 : Hid (sorted ((keysT l).drop 0) = r3) := hideIt hr3
    have i0 : ((n : Int) == 0) = false := beq_eq_false_iff_ne.2 (by omega)
    clear hr1 hr2 hr3 h0
    go_enter Try.func28, Try.ntmps28
    go_wp2
    go_loopw [3] (fun ii wr => ∃ i, i ≤ n ∧ ii = .int .i64 (i : Int) ∧ Hid ((l.drop i).all lenOk = r1) ∧ Below w.heap.size w wr)
      (fun ii _ => n - (intOf ii).toNat)
    case atStart => exact ⟨0, by omega, rfl, H1, Below.refl _ _⟩
    case round =>
      clear H1
      obtain ⟨i, hi, rfl, H1, bw⟩ := hrel
      by_cases hlt : i < n
      · obtain ⟨ad, ⟨A1, n1, c1⟩, ⟨A3, n3, c3⟩, x, rfl, hx, ⟨q0, q1, q2, q3⟩, rk, -⟩ := (h.below bw).row i hlt
        simp only at q0 q1 rk
        have st := allT_step (f := lenOk) hx
        rw [H1.out] at st
        have mk : n1 ≤ 9223372036854775807 := by have h1 := RC.le rk; have h2 := RC.mx rk; rw [maxLen_is] at h2; omega
        have hso : lenOk x = (!decide ((n1 : Int) < 1) && (!decide (255 < (n1 : Int)) && (!decide (x.s < 0) && !decide (262144 < x.s)))) := by
          unfold lenOk; rw [rk.len]
          by_cases z1 : (n1 : Int) < 1 <;> by_cases z0 : 255 < (n1 : Int) <;> by_cases z2 : x.s < 0 <;> by_cases z3 : 262144 < x.s <;> simp [z1, z2, z3, z0] <;> omega
        have ba := below1 wr (.cells #[.slice A1 n1 c1, .slice A3 n3 c3, .int .i64 x.s, .int .i64 x.f] 48)
        have b2 := blw_step bw ba
        have j1 : (i : Int) < (n : Int) := by omega
        obtain ⟨v1, hv1⟩ : ∃ v, decide ((n1 : Int) < 1) = v := ⟨_, rfl⟩
        obtain ⟨v2, hv2⟩ : ∃ v, decide (255 < (n1 : Int)) = v := ⟨_, rfl⟩
        obtain ⟨a1, ha1⟩ : ∃ v, decide (x.s < 0) = v := ⟨_, rfl⟩
        obtain ⟨a2, ha2⟩ : ∃ v, decide (262144 < x.s) = v := ⟨_, rfl⟩
        rw [hv1, hv2, ha1, ha2] at hso
        rw [hso] at st
        clear hso hx rk
        by_cases hall : (!v1 && (!v2 && (!a1 && !a2))) = true
        · rw [hall, Bool.true_and] at st
          have ST := hideIt st.symm
          obtain ⟨rfl, rfl, rfl, rfl⟩ : v1 = false ∧ v2 = false ∧ a1 = false ∧ a2 = false := by
            revert hall; cases v1 <;> cases v2 <;> cases a1 <;> cases a2 <;> simp
          clear st hall
          go_wp2
          go_roundw
          case rel => exact ⟨i + 1, by omega, by go_num, ST, b2⟩
          case measure => simp [intOf]; omega
        · have hall : (!v1 && (!v2 && (!a1 && !a2))) = false := by simpa using hall
          rw [hall, Bool.false_and] at st
          subst st
          cases v1
          · cases v2
            · cases a1
              · cases a2
                · cases hall
                · clear hall
                  go_wp2
                  go_ret
                  exact ⟨rfl, b2⟩
              · clear hall
                go_wp2
                go_ret
                exact ⟨rfl, b2⟩
            · clear hall
              go_wp2
              go_ret
              exact ⟨rfl, b2⟩
          · clear hall
            go_wp2
            go_ret
            exact ⟨rfl, b2⟩
      · obtain rfl : n = i := by omega
        rw [allT_end (by rw [HL.out]; exact Nat.le_refl _)] at H1
        obtain rfl := H1.out
        clear H1
        go_wp2
        go_loopw [5] (fun ii wr => ∃ i, i ≤ n ∧ ii = .int .i64 (i : Int) ∧ Hid ((l.drop i).all holdT = r2) ∧ Below w.heap.size w wr)
          (fun ii _ => n - (intOf ii).toNat)
        case atStart => exact ⟨0, by omega, rfl, H2, bw⟩
        case round =>
          clear H2 bw
          obtain ⟨i, hi, rfl, H2, bw⟩ := hrel
          by_cases hlt : i < n
          · obtain ⟨ad, ⟨A1, n1, c1⟩, ⟨A3, n3, c3⟩, x, rfl, hx, ⟨q0, q1, q2, q3⟩, -, rv⟩ := (h.below bw).row i hlt
            simp only at q0 q1 rv
            have st := allT_step (f := holdT) hx
            rw [H2.out] at st
            have j1 : (i : Int) < (n : Int) := by omega
            have HC := fun W => holds_calls A1 A3 n1 c1 n3 c3 x W rv.len
            generalize holdT x = t at *
            clear hx rv
            cases t
            · rw [Bool.false_and] at st
              subst st
              go_wp2_with (go_at_call 54; refine (HC _).mono ?_; rintro en w2 ⟨rfl, y2⟩; have b2 := blw_step bw y2)
              go_ret
              exact ⟨rfl, b2⟩
            · rw [Bool.true_and] at st
              have ST := hideIt st.symm
              clear st
              go_wp2_with (go_at_call 54; refine (HC _).mono ?_; rintro en w2 ⟨rfl, y2⟩; have b2 := blw_step bw y2)
              go_roundw
              case rel => exact ⟨i + 1, by omega, by go_num, ST, b2⟩
              case measure => simp [intOf]; omega
          · obtain rfl : n = i := by omega
            rw [allT_end (by rw [HL.out]; exact Nat.le_refl _)] at H2
            obtain rfl := H2.out
            clear H2
            go_wp2
            go_loopw [7] (fun ii wr => ∃ j : Nat, 1 ≤ j ∧ j ≤ n + 1 ∧ ii = .int .i64 (j : Int) ∧ Hid (sorted ((keysT l).drop (j - 1)) = r3) ∧ Below w.heap.size w wr)
              (fun ii _ => n + 2 - (intOf ii).toNat)
            case atStart => exact ⟨1, by omega, by omega, rfl, H3, bw⟩
            case round =>
              clear H3 bw
              obtain ⟨j, hj, hj2, rfl, H3, bw⟩ := hrel
              by_cases hlt : j < n
              · obtain ⟨ad, ⟨Ai, ni, ci⟩, q, s, rfl, hs, its, rs, -⟩ := (h.below bw).row (j - 1) (by omega)
                obtain ⟨ad', ⟨Aj, nj, cj⟩, q', t, e', ht, itt, rt, -⟩ := (h.below bw).row j hlt
                cases e'
                have hs2 := keysT_get l _ _ hs
                have ht2 := keysT_get l _ _ ht
                have st := sortedT_step hs2 (show (keysT l)[j - 1 + 1]? = some t.k by rw [Nat.sub_add_cancel hj]; exact ht2)
                rw [H3.out] at st
                have cs0 := its.c0
                have ct0 := itt.c0
                simp only at cs0 ct0 rs rt
                have j1 : (j : Int) < (n : Int) := by omega
                have f1 : ((j : Int) - 1).toNat = j - 1 := by omega
                have f2 : (0 : Int) ≤ (j : Int) - 1 := by omega
                have f3 : (j : Int) - 1 < (n : Int) := by omega
                have CM := fun mm => Less_calls _ _ _ _ _ _ _ _ (wr.drewN mm) (drewB rs mm) (drewB rt mm)
                generalize decide (Key.cmpB s.k t.k < 0) = z at CM st
                clear its itt hs ht hs2 ht2
                cases z
                · rw [Bool.false_and] at st
                  subst st
                  go_wp2
                  go_quiet (first | (go_at_call 55; exact Calls.quiet_of_same (CM _)))
                  go_wp2
                  go_ret
                  exact ⟨rfl, below_drewN bw _⟩
                · rw [Bool.true_and] at st
                  have ST := hideIt st.symm
                  clear st
                  go_wp2
                  go_quiet (first | (go_at_call 55; exact Calls.quiet_of_same (CM _)))
                  go_wp2
                  go_roundw
                  case rel => exact ⟨j + 1, by omega, by omega, by go_num, by rw [show j + 1 - 1 = j - 1 + 1 by omega]; exact ST, below_drewN bw _⟩
                  case measure => simp [intOf]; omega
              · rw [sortedT_end (by rw [keysT_length, HL.out]; omega)] at H3
                obtain rfl := H3.out
                have j1 : decide ((j : Int) < (n : Int)) = false := decide_eq_false (by omega)
                go_wp2
                go_ret
                exact ⟨rfl, bw⟩
end Go.Proofs.Ytieoleiokjoccaa
