/- coppicelaw5.oneForm. -/
import Derived.Test.YtmeakhiiebeneaaGreatDoorPt
import Derived.Test.YtmeakhiiebeneaaGreatDoorM1
import Derived.Test.YtmeakhiiebeneaaGreatDoorPb
import Derived.Test.YtmeakhiiebeneaaGreatDoorN5
import Derived.Test.YtmeakhiiebeneaaGreatDoorPc
import Derived.Test.YtmeakhiiebeneaaGreatDoorM3
namespace Go.Proofs.YtmeakhiiebeneaaGreatDoor
open Go.RowKit

set_option maxRecDepth 100000 in
theorem xor_ne (b x : UInt8) (h : x ≠ 0) : b ^^^ x ≠ b := by
  intro q
  refine h ?_
  have : b ^^^ (b ^^^ x) = b ^^^ b := by rw [q]
  rw [← UInt8.xor_assoc, UInt8.xor_self, UInt8.zero_xor] at this
  exact this
set_option maxRecDepth 100000 in
theorem set_ne (l : List UInt8) (q : Nat) (x : UInt8) (hq : q < l.length) (h : x ≠ 0) : l.set q (l.getD q 0 ^^^ x) ≠ l := by
  intro e
  have h1 := congrArg (fun m => m[q]?) e
  simp only [List.getElem?_set_self hq] at h1
  rw [List.getD_eq_getElem?_getD, List.getElem?_eq_getElem hq] at h1
  simp only [Option.getD_some, Option.some.injEq] at h1
  exact xor_ne _ x h h1

end Go.Proofs.YtmeakhiiebeneaaGreatDoor
/- coppicelaw5.BranchOneForm. -/
namespace Go.Proofs.YtmeakhiiebeneaaGreatDoor
open Go.RowKit

end Go.Proofs.YtmeakhiiebeneaaGreatDoor
namespace Go.Proofs.YtmeakhiiebeneaaGreatDoor
open Go.RowKit

set_option maxRecDepth 100000 in
theorem fold_step (x : List UInt8) (p : Nat) (l : List (List UInt8)) (i : Nat) (s : List UInt8) (h : l[i]? = some s) : (l.drop i).foldl (fun n s => min n (Key.com x s)) p = (l.drop (i + 1)).foldl (fun n s => min n (Key.com x s)) (min p (Key.com x s)) := by
  obtain ⟨h1, h2⟩ := List.getElem?_eq_some_iff.1 h
  rw [List.drop_eq_getElem_cons h1, List.foldl_cons, h2]
set_option maxRecDepth 100000 in
theorem com_end2 (a b : List UInt8) (k : Nat) (r : Nat) (h : k + Key.com (a.drop k) (b.drop k) = r) : k ≤ r := by omega

set_option maxRecDepth 100000 in
set_option maxHeartbeats 2000000 in
theorem Prefix_calls (A : Option Addr) (n c : Nat) (vs : List Value) (l : List (List UInt8)) (w : World) (h : RM w A n c vs l) :
    Calls Tryz.prog 172 #[.slice A n c] w fun e w' => e = .returned (.int .i64 (Key.comAll l : Nat)) ∧ ∃ j, w' = w.drewN j := by
  have hmx : n ≤ 9223372036854775807 := by have h1 := RC.le h.rc; have h2 := RC.mx h.rc; rw [maxLen_is] at h2; omega
  rcases Nat.eq_zero_or_pos n with hn | hn
  · subst hn
    have : l = [] := List.eq_nil_of_length_eq_zero h.len
    subst this
    go_enter Tryz.func172, Tryz.ntmps172
    go_wp2
    go_ret
    exact ⟨rfl, 0, rfl⟩
  · obtain ⟨ad, A0, n0, c0, x, rfl, hx, cell0, r0⟩ := h.row 0 hn
    rw [Addr.add_zero'] at cell0
    obtain ⟨R, hR⟩ : ∃ R, Key.comAll l = R := ⟨_, rfl⟩
    have hdrop : (l.drop 1).foldl (fun n s => min n (Key.com x s)) n0 = R := by
      rw [← hR]
      cases l with
      | nil => simp at hx
      | cons y t =>
        simp at hx
        subst hx
        rw [← r0.len]
        rfl
    rw [hR]
    have H0 := hideIt hdrop
    have HL := hideIt h.len
    have HX := hideIt r0.len
    have n0m : n0 ≤ 9223372036854775807 := r0.max
    have hn0 : ((n : Int) == 0) = false := beq_eq_false_iff_ne.2 (by omega)
    have i00 : (0 : Int) < (n : Int) := by omega
    clear hdrop hR hx
    go_enter Tryz.func172, Tryz.ntmps172
    go_wp2
    go_loopw [3, 4] (fun pp ii wr => ∃ (i p : Nat), 1 ≤ i ∧ i ≤ n ∧ p ≤ n0 ∧ pp = .int .i64 (p : Int) ∧ ii = .int .i64 (i : Int) ∧ Hid ((l.drop i).foldl (fun n s => min n (Key.com x s)) p = R) ∧ ∃ j, Hid (wr = w.drewN j))
      (fun _ ii _ => n - (intOf ii).toNat)
    case atStart => exact ⟨1, n0, by omega, by omega, Nat.le_refl _, rfl, rfl, H0, 0, hideIt rfl⟩
    case round =>
      clear H0
      obtain ⟨i, p, hi1, hi, hp, rfl, rfl, H, j, HW⟩ := hrel
      by_cases hlt : i < n
      · obtain ⟨ad', Ai, ni, ci, s, e', hs, cellw, rs⟩ := h.row i hlt
        cases e'
        have cell : wr.cell? (ad.add i) = some (.slice Ai ni ci) := by rw [HW.out]; exact cellw
        have cell0' : wr.cell? ad = some (.slice A0 n0 c0) := by rw [HW.out]; exact cell0
        have st := fold_step x p l i s hs
        rw [H.out] at st
        obtain ⟨r, hr'⟩ : ∃ r, Key.com x s = r := ⟨_, rfl⟩
        have rle : r ≤ ni := by rw [← hr', ← rs.len]; exact Key.com_le' x s
        obtain ⟨p0, hp0⟩ : ∃ p0, min p ni = p0 := ⟨_, rfl⟩
        have hmin := min_run2 p ni p0 hp0
        have hmm : min p r = min p0 r := by omega
        rw [hr', hmm] at st
        have ST := hideIt st.symm
        have pn : p0 ≤ ni := by omega
        have pn0 : p0 ≤ n0 := by omega
        have HS := hideIt rs.len
        have i1 : (i : Int) < (n : Int) := by omega
        have HC : Hid (0 + Key.com (x.drop 0) (s.drop 0) = r) := hideIt (by simpa using hr')
        clear st hs hr' hp0 hmm H hp rle
        go_wp2
        go_loopw [3, 5] (fun pp kk wk => ∃ (p' k : Nat), ((p' = p0 ∧ k ≤ p0 ∧ Hid (k + Key.com (x.drop k) (s.drop k) = r)) ∨ (k = p' + 1 ∧ p' ≤ p0 ∧ Hid (p' = min p0 r))) ∧ pp = .int .i64 (p' : Int) ∧ kk = .int .i64 (k : Int) ∧ ∃ j, Hid (wk = w.drewN j))
          (fun pp kk _ => (intOf pp - intOf kk).toNat)
        case atStart => exact ⟨p0, 0, Or.inl ⟨rfl, Nat.zero_le _, HC⟩, rfl, rfl, j, HW⟩
        case round =>
          clear HC cell0' cell HW
          obtain ⟨p', k, hcase, rfl, rfl, j2, HW2⟩ := hrel
          rcases hcase with ⟨rfl, hk, HC⟩ | ⟨rfl, hp', HE⟩
          · by_cases hkp : k < p'
            · have kx : k < x.length := by rw [HX.out]; omega
              have ks : k < s.length := by rw [HS.out]; omega
              obtain ⟨adx, ads, vx, vy, e1, e2, ca, ca', -, -, he⟩ := two_cells (r0.drew_ j2) (rs.drew_ j2) k kx ks
              subst e1 e2
              rw [← HW2.out] at ca ca'
              have ck : wr.cell? (ad.add i) = some (.slice (some ads) ni ci) := by rw [HW2.out]; exact cellw
              have ck0 : wr.cell? ad = some (.slice (some adx) n0 c0) := by rw [HW2.out]; exact cell0
              have st := Key.com_step x s k kx ks
              rw [HC.out] at st
              have k0 : (k : Int) < (n0 : Int) := by omega
              have k1 : (k : Int) < (ni : Int) := by omega
              have k2 : (k : Int) < (p' : Int) := by omega
              by_cases e : vx = vy
              · rw [if_pos (he.1 e)] at st
                have H3 := hideIt st.symm
                subst e
                clear st he kx ks
                go_wp2
                go_quiet (fail)
                go_wp2
                go_roundw
                case rel => exact ⟨p', k + 1, Or.inl ⟨rfl, by omega, H3⟩, rfl, by go_num, _, hideIt (by rw [HW2.out, World.drewN_drewN])⟩
                case measure => simp [intOf]; omega
              · rw [if_neg (fun q => e (he.2 q))] at st
                have H3 : Hid (k = min p' r) := hideIt (by omega)
                have b1 : (vy != vx) = true := by rw [bne_iff_ne]; exact fun q => e q.symm
                clear st he kx ks e
                go_wp2
                go_quiet (fail)
                go_wp2
                go_roundw
                case rel => exact ⟨k, k + 1, Or.inr ⟨rfl, by omega, H3⟩, rfl, by go_num, _, hideIt (by rw [HW2.out, World.drewN_drewN])⟩
                case measure => simp [intOf]; omega
            · obtain rfl : p' = k := by omega
              have hm : min p' r = p' := by have := com_end2 _ _ _ _ HC.out; omega
              rw [hm] at ST
              clear hm HC
              go_wp2
              go_roundw
              case rel => exact ⟨i + 1, p', by omega, by omega, by omega, rfl, by go_num, ST, _, HW2⟩
              case measure => simp [intOf]; omega
          · rw [← HE.out] at ST
            have i2 : decide ((p' : Int) + 1 < (p' : Int)) = false := decide_eq_false (by omega)
            go_wp2
            go_roundw
            case rel => exact ⟨i + 1, p', by omega, by omega, by omega, rfl, by go_num, ST, _, HW2⟩
            case measure => simp [intOf]; omega
      · obtain rfl : n = i := by omega
        have hd : l.drop n = [] := List.drop_of_length_le (by rw [HL.out]; exact Nat.le_refl _)
        rw [hd] at H
        have HP : Hid (p = R) := H
        clear hd H
        go_wp2
        go_ret
        exact ⟨by rw [HP.out]; rfl, _, HW.out⟩
end Go.Proofs.YtmeakhiiebeneaaGreatDoor
/- coppiceref.Less; coppiceref5: Size, two. -/
namespace Go.Proofs.YtmeakhiiebeneaaGreatDoor
open Go.RowKit

set_option maxRecDepth 100000 in
theorem less_eq (a b : List UInt8) : Op.bytesLess a b = decide (Key.cmpB a b < 0) := by
  induction a generalizing b with
  | nil =>
    rw [Key.cmpB_nil]
    cases b <;> simp [Op.bytesLess]
  | cons x a ih =>
    cases b with
    | nil => rw [Key.cmpB_nil']; simp [Op.bytesLess]
    | cons y b =>
      rw [Key.cmpB_cons, Op.bytesLess, ih b]
      by_cases h1 : x < y
      · rw [if_pos h1]; simp [h1]
      · rw [if_neg h1]
        by_cases h2 : y < x
        · rw [if_pos h2]
          have h3 : (x == y) = false := beq_eq_false_iff_ne.2 (fun q => Key.u8_irr y (q ▸ h2))
          simp [h1, h3]
        · rw [if_neg h2]
          have := Key.u8_eq h1 h2
          subst this
          simp [h1]
set_option maxRecDepth 100000 in
set_option maxHeartbeats 400000 in
theorem Less_calls (A A' : Option Addr) (n c n' c' : Nat) (xs ys : List UInt8) (w : World) (h : RB w A n c xs) (h' : RB w A' n' c' ys) :
    Calls Tryz.prog 98 #[.slice A n c, .slice A' n' c'] w fun e w' => e = .returned (.bool (decide (Key.cmpB xs ys < 0))) ∧ w' = w := by
  have k1 := conv_str (P := Tryz.prog) (src := 40) (dst := 9) w Tryz.underlying40 Tryz.underlying5 Tryz.underlying9 h
  have k2 := conv_str (P := Tryz.prog) (src := 40) (dst := 9) w Tryz.underlying40 Tryz.underlying5 Tryz.underlying9 h'
  rw [← less_eq]
  have e1 : (⟨xs.toArray⟩ : ByteArray).toList = xs := by rw [ByteArray.toList_eq]
  have e2 : (⟨ys.toArray⟩ : ByteArray).toList = ys := by rw [ByteArray.toList_eq]
  obtain ⟨t, ht⟩ : ∃ t, Op.bytesLess xs ys = t := ⟨_, rfl⟩
  have hs : Op.bytesLess (⟨xs.toArray⟩ : ByteArray).toList (⟨ys.toArray⟩ : ByteArray).toList = t := by rw [e1, e2]; exact ht
  rw [ht]
  clear e1 e2 ht
  generalize (⟨xs.toArray⟩ : ByteArray) = s1 at k1 hs
  generalize (⟨ys.toArray⟩ : ByteArray) = s2 at k2 hs
  go_enter Tryz.func98, Tryz.ntmps98
  go_wp2
  go_ret
  exact ⟨ret_bool1 (by simp [*]), rfl⟩

set_option maxRecDepth 100000 in
set_option maxHeartbeats 2000000 in
theorem refSize_calls (A : Option Addr) (n c : Nat) (vs : List Value) (l : List (List UInt8)) (w : World) (h : RM w A n c vs l) (hf : Few n l) :
    Calls Tryz.prog 99 #[.slice A n c] w fun e w' => e = .returned (.int .i64 (sizeS l : Nat)) ∧ ∃ j, w' = w.drewN j := by
  have hL := h.len
  have HL := hideIt hL
  have n7 := hf.n
  have hp := hf.pre
  have hsum := hf.sum hL
  have HM := hideIt (fun s (hs : s ∈ l) => And.intro (pre_take l s hs).2 (hf.s s hs))
  obtain ⟨r, hr⟩ : ∃ r, sizeS l = r := ⟨_, rfl⟩
  have hS : 12 + vl (Key.comAll l) + Key.comAll l + sumP (Key.comAll l) l = r := hr
  rw [hr]
  have CA := fun W q => Prefix_calls A n c vs l W q
  generalize Key.comAll l = p at *
  have vb := (vl_bounds p).2
  have sl := hsum p
  have VP := fun W => refVLen_vl p W (by omega)
  have up := u64_small p (by omega)
  generalize vl p = v at *
  have HS := hideIt hS
  clear hS hr hsum hL
  go_enter Tryz.func99, Tryz.ntmps99
  go_upto_region 3 with (first
    | (go_at_call 173; refine (VP _).mono ?_; rintro en wx ⟨rfl, rfl⟩)
    | (go_at_call 172; refine (CA _ h).mono ?_; rintro en w1 ⟨rfl, j1, rfl⟩))
  clear VP up CA
  go_wp2
  go_loopw [4, 5] (fun nn ii wr => ∃ (i N : Nat), i ≤ n ∧ ii = .int .i64 (i : Int) ∧ nn = .int .i64 (N : Int) ∧ Hid (N = 12 + v + p + sumP p (l.take i)) ∧ N ≤ 12 + v + p + 701400000 ∧ Hid (wr = w.drewN j1))
    (fun _ ii _ => n - (intOf ii).toNat)
  case atStart => exact ⟨0, 12 + v + p, by omega, rfl, by go_num, hideIt (by simp [sumP]), by omega, hideIt rfl⟩
  case round =>
    obtain ⟨i, N, hi, rfl, rfl, HN, Nb, HW⟩ := hrel
    by_cases hlt : i < n
    · obtain ⟨ad, Ai, ni, ci, s, rfl, hs, cellw, rs⟩ := h.row i hlt
      have cell : wr.cell? (ad.add i) = some (.slice Ai ni ci) := by rw [HW.out]; exact cellw
      have hsl := rs.len
      have hm := HM.out s (List.mem_of_getElem? hs)
      have st := sumP_step p l i s hs
      have le := sumP_take_le p l (i + 1)
      obtain ⟨d, hd⟩ : ∃ d, ni - p = d := ⟨_, rfl⟩
      have hd2 : (ni : Int) - (p : Int) = (d : Int) := by omega
      have ud := u64_small d (by omega)
      have VD := fun W => refVLen_vl d W (by omega)
      have db := (vl_bounds d).2
      have hpart : part p s = 10 + vl d + d := by unfold part; rw [hsl, hd]
      rw [hpart] at st
      rw [st] at le
      generalize vl d = u at *
      have ST := hideIt st
      have NN := HN.out
      have dl : d ≤ 10000 := by omega
      have pn : p ≤ ni := by omega
      have nl : ni ≤ 10000 := by omega
      have Nb2 : N + (10 + u + d) ≤ 12 + v + p + 701400000 := by omega
      have i1 : (i : Int) < (n : Int) := by omega
      clear hm st le hd hpart hs hsl NN
      go_wp2_with (go_at_call 173; refine (VD _).mono ?_; rintro en wx ⟨rfl, rfl⟩)
      go_roundw
      case rel => exact ⟨i + 1, N + (10 + u + d), by omega, by go_num, congrArg (Value.int .i64) (by omega), hideIt (by rw [HN.out, ST.out]; omega), Nb2, HW⟩
      case measure => simp [intOf]; omega
    · obtain rfl : n = i := by omega
      have et : l.take n = l := List.take_of_length_le (by rw [HL.out]; exact Nat.le_refl _)
      rw [et, HS.out] at HN
      obtain rfl := HN.out
      go_wp2
      go_ret
      exact ⟨rfl, _, HW.out⟩

set_option maxRecDepth 100000 in
set_option maxHeartbeats 2000000 in
theorem two_nat (l : Nat) (A : Option Addr) (n c : Nat) (xs : List UInt8) (x y : Nat) (w : World) (hx : RB w A n c xs) (hl : n + 8 = l) (hb : n ≤ 1000000) (h1 : x ≤ 4294967295) (h2 : y ≤ 4294967295) :
    Calls Tryz.prog 176 #[.slice A n c, .agg #[.int .i64 (x : Int), .int .i64 (y : Int)]] w fun e w' => ∃ g c', e = .returned (.slice (some ⟨g, 0, none⟩) l c') ∧ w.heap.size ≤ g ∧ OB w' g l c' (xs ++ (leB x 4 ++ leB y 4)) ∧ Below w.heap.size w w' := by
  subst hl
  have e1 : IntKind.u64.wrap (x : Int) = (x : Int) := by rw [IntKind.wrap_u64]; omega
  have e2 : IntKind.u64.wrap (y : Int) = (y : Int) := by rw [IntKind.wrap_u64]; omega
  have q0 := KdAt.new w 124 x y
  have b0 := below1 w (.cells #[.int .i64 (x : Int), .int .i64 (y : Int)] 124)
  have c0 := q0.c0
  go_enter Tryz.func176, Tryz.ntmps176
  go_upto_region 2 with (go_at_call 174; refine (refPut_calls _ _ _ _ x 4 _ (hx.below b0) (by omega) (by omega) (by omega)).mono ?_; rintro en w1 ⟨g1, d1, rfl, s1, o1, x1⟩)
  have q1 := q0.below x1
  have c1 := q1.c1
  have b1 := blw_step b0 x1
  go_wp2_with (go_at_call 174; refine (refPut_calls _ _ _ _ y 4 _ o1.read (by omega) (by omega) (by omega)).mono ?_; rintro en w2 ⟨g2, d2, rfl, s2, o2, x2⟩)
  go_ret
  rw [List.append_assoc] at o2
  exact ⟨g2, d2, rfl, Nat.le_trans b1.size s2, o2, blw_step b1 x2⟩
set_option maxRecDepth 100000 in
theorem two_calls (l : Nat) (A : Option Addr) (n c : Nat) (xs : List UInt8) (k1 k2 : Int) (w : World) (hx : RB w A n c xs) (hl : n + 8 = l) (hb : n ≤ 1000000) (hk : kidOk (k1, k2) = true) :
    Calls Tryz.prog 176 #[.slice A n c, .agg #[.int .i64 k1, .int .i64 k2]] w fun e w' => ∃ g c', e = .returned (.slice (some ⟨g, 0, none⟩) l c') ∧ w.heap.size ≤ g ∧ OB w' g l c' (xs ++ kidB (k1, k2)) ∧ Below w.heap.size w w' := by
  obtain ⟨h1, h2, h3, h4⟩ := kid_toNat hk
  have h3' : k1.toNat < 4294967296 := h3
  have h4' : k2.toNat < 4294967296 := h4
  have := two_nat l A n c xs k1.toNat k2.toNat w hx hl hb (by omega) (by omega)
  simp only at h1 h2
  rw [h1, h2] at this
  exact this
end Go.Proofs.YtmeakhiiebeneaaGreatDoor
namespace Go.Proofs.YtmeakhiiebeneaaGreatDoor
open Go.RowKit

set_option maxRecDepth 100000 in
theorem may_wr (r1 r2 r3 r4 : Bool) : decide (WR r1 r2 r3 r4 = 0) = (r1 && ((r2 && r3) && !r4)) := by
  cases r1 <;> cases r2 <;> cases r3 <;> cases r4 <;> rfl
end Go.Proofs.YtmeakhiiebeneaaGreatDoor
