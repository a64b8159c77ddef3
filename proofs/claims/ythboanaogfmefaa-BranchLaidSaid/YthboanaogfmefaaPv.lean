/- coppicelaw5.oneForm. -/
import Derived.Test.YthboanaogfmefaaPt
import Derived.Test.YthboanaogfmefaaLit
namespace Go.Proofs.Ythboanaogfmefaa
open Go.RowKit

theorem xor_ne (b x : UInt8) (h : x ≠ 0) : b ^^^ x ≠ b := by
  intro q
  refine h ?_
  have : b ^^^ (b ^^^ x) = b ^^^ b := by rw [q]
  rw [← UInt8.xor_assoc, UInt8.xor_self, UInt8.zero_xor] at this
  exact this
theorem set_ne (l : List UInt8) (q : Nat) (x : UInt8) (hq : q < l.length) (h : x ≠ 0) : l.set q (l.getD q 0 ^^^ x) ≠ l := by
  intro e
  have h1 := congrArg (fun m => m[q]?) e
  simp only [List.getElem?_set_self hq] at h1
  rw [List.getD_eq_getElem?_getD, List.getElem?_eq_getElem hq] at h1
  simp only [Option.getD_some, Option.some.injEq] at h1
  exact xor_ne _ x h h1

set_option maxRecDepth 100000 in
set_option maxHeartbeats 2000000 in
theorem oneForm_calls (A : Option Addr) (n c : Nat) (B : List UInt8) (at_ : Int) (x : UInt8) (w : World) (h : RB w A n c B) (_ha : -9223372036854775808 ≤ at_ ∧ at_ ≤ 9223372036854775807) :
    Calls Try.prog 32 #[.slice A n c, .int .i64 at_, .int .u8 (x.toNat : Int)] w fun e w' => e = .returned (.bool true) ∧ Below w.heap.size w w' := by
  have D := Decode_calls A n c B w h
  cases hd : okDec B
  · have HD := hideIt hd
    clear hd
    go_enter Try.func32, Try.ntmps32
    go_upto_region 2 with (go_at_call 29; refine D.mono ?_; intro en w1 qd; obtain ⟨A1, n1, c1, ps, A2, n2, c2, rfl, om, gk, x1⟩ := qd.not HD.out)
    have e1 := om.read.len
    have e2 := (GK.read gk).len
    simp only [List.length_nil] at e1 e2
    subst e1 e2
    clear om gk qd D
    go_wp2_with (go_at_call 25; refine (num_calls _ _).mono ?_; rintro en wx ⟨rfl, rfl⟩)
    go_ret
    exact ⟨rfl, x1⟩
  · have body := dec_body hd
    generalize levD B = v at body
    generalize (restS B).1 = l at body
    generalize kidsD B = ks at body
    have IB := hideIt body
    have hw := body.1
    have hb := body.2
    have BL := hideIt (show B.length = 4092 by rw [← hb]; exact bodyB_length (ok_of hw))
    have HW := hideIt hw
    have HB := hideIt hb
    clear hd hw hb body
    go_enter Try.func32, Try.ntmps32
    go_upto_region 2 with (go_at_call 29; refine D.mono ?_; intro en w1 qd; obtain ⟨A1, n1, c1, ps, A2, n2, c2, rfl, om, gk, x1⟩ := qd.yes IB.out)
    have h1 := h.below x1
    have EN := Encode_ok v _ _ _ _ _ _ _ _ _ _ om.read (GK.read gk) HW.out
    rw [HB.out] at EN
    clear D qd
    go_upto_region 5 with (first
      | (go_at_call 25; refine (num_calls _ _).mono ?_; rintro en wx ⟨rfl, rfl⟩)
      | (go_at_call 21; refine EN.mono ?_; rintro en w2 ⟨g2, rfl, s2, o2, x2⟩))
    have h2 := h1.below x2
    have om2 := om.below x2
    have gk2 := GC.below gk x2
    have b2 := blw_step x1 x2
    have ws2 := Nat.le_trans x1.size s2
    have ol := o2.lt
    have LO := hideIt om.lt
    clear EN om gk h1 x1
    by_cases hx : x = 0
    · subst hx
      go_wp2_with (first
        | (go_at_call 24; refine (SameBytes_calls _ _ _ _ _ _ _ _ _ h2 o2.read true (by simp)).mono ?_; rintro en wx ⟨rfl, rfl⟩)
        | (go_at_call 25; refine (num_calls _ _).mono ?_; rintro en wx ⟨rfl, rfl⟩))
      go_ret
      exact ⟨rfl, b2⟩
    · have tx : ((x.toNat : Int) == 0) = false := beq_eq_false_iff_ne.2 (fun q => hx (UInt8.toNat_inj.1 (by show x.toNat = 0; omega)))
      have HX := hideIt hx
      clear hx
      go_upto_region 10 with (first
        | (go_at_call 24; refine (SameBytes_calls _ _ _ _ _ _ _ _ _ h2 o2.read true (by simp)).mono ?_; rintro en wx ⟨rfl, rfl⟩)
        | (go_at_call 25; refine (num_calls _ _).mono ?_; rintro en wx ⟨rfl, rfl⟩))
      obtain ⟨r, q, hr, hr1, hr2, hq, hqn⟩ := place at_ 4092 (by omega)
      obtain ⟨y, hy0⟩ : ∃ y, B.getD q 0 = y := ⟨_, rfl⟩
      have HY := hideIt hy0
      clear hy0
      have cq := byte_cell o2 hqn HY
      have fq := o2.free q
      have o3 := byte_turn o2 q y x
      have gx := grownBy_set w2 g2 q (.int .u8 (bits .xor .u8 (y.toNat : Int) (x.toNat : Int)))
      have om3 := om2.under gx (fun p hp a e => by have := LO.out p hp a e; omega) o2 (by decide)
      have gk3 : GK _ w.heap.size A2 n2 c2 ks := GC.apart gk2 (GC.of o2 (Nat.zero_le g2)) gx (by decide)
      have b3 := blw_own b2 gx b2.size ws2
      have hv := (ok_of HW.out).l1
      have t0 : ((0 : Int) == v) = false := beq_eq_false_iff_ne.2 (by omega)
      have NE := hideIt (set_ne B q x (by rw [BL.out]; exact hqn) HX.out)
      rw [HY.out] at NE
      rw [show ((4092 : Nat) : Int) = 4092 from rfl] at hr hr1 hr2 hq
      have i1 : (q : Int) < 4092 := by omega
      generalize B.set q (y ^^^ x) = B' at o3 NE
      go_upto_region 11 with fail
      generalize hw3 : w2.setCell ⟨g2, q, none⟩ (.int .u8 (bits .xor .u8 (y.toNat : Int) (x.toNat : Int))) = w3 at o3 om3 gk3 b3 ⊢
      clear hw3 cq fq gx om2 gk2 b2 o2 ol x2 h2 s2 HY LO hr hr1 hr2 hq hqn i1
      have D3 := Decode_calls _ _ _ _ w3 o3.read
      cases hd : okDec B'
      · have HD := hideIt hd
        clear hd
        go_upto_region 12 with (go_at_call 29; refine D3.mono ?_; intro en w4 qd; obtain ⟨A3, n3, c3, ps3, A4, n4, c4, rfl, om4, gk4, x4⟩ := qd.not HD.out)
        have b4 := blw_step b3 x4
        clear qd D3 om4 gk4 om3 gk3 o3 b3 x4
        go_wp2_with (go_at_call 25; refine (num_calls _ _).mono ?_; rintro en wx ⟨rfl, rfl⟩)
        go_ret
        exact ⟨rfl, b4⟩
      · have body := dec_body hd
        generalize levD B' = v' at body
        generalize (restS B').1 = l' at body
        generalize kidsD B' = ks' at body
        have IB' := hideIt body
        clear body hd
        go_upto_region 12 with (go_at_call 29; refine D3.mono ?_; intro en w4 qd; obtain ⟨A3, n3, c3, ps3, A4, n4, c4, rfl, om4, gk4, x4⟩ := qd.yes IB'.out)
        have b4 := blw_step b3 x4
        have om5 := (om3.below x4).read
        have gk5 : RK w4 A2 n2 c2 ks := GK.read (GC.below gk3 x4)
        have om6 := om4.read
        have gk6 := GK.read gk4
        clear qd D3 om4 gk4 om3 gk3 o3 b3 x4
        have DIFF : Hid (¬ (v' = v ∧ l' = l ∧ ks' = ks)) := hideIt (by
          rintro ⟨rfl, rfl, rfl⟩
          exact NE.out (by rw [← IB'.out.2, HB.out]))
        by_cases e1 : v' = v
        · subst e1
          have tv : (v' == v') = true := beq_self_eq_true _
          by_cases e2 : l' = l
          · have e3 : ks' ≠ ks := fun q => DIFF.out ⟨rfl, e2, q⟩
            have S1 := SameByteLists_calls _ _ _ _ _ _ _ _ _ _ _ om6 om5 true (decide_eq_true e2).symm
            have S2 := fun j W (e : W = w4.drewN j) => SameKids_calls _ _ _ _ _ _ _ _ W (RK.at_world (gk6.drew_ j) e) (RK.at_world (gk5.drew_ j) e) false (decide_eq_false e3).symm
            clear e2 e3 om5 om6 gk5 gk6
            go_wp2_with (first
              | (go_at_call 25; refine (num_calls _ _).mono ?_; rintro en wx ⟨rfl, rfl⟩)
              | (go_at_call 31; refine (S2 j5 _ H5.out).mono ?_; rintro en w6 ⟨rfl, j6, h6⟩; have b6 := below_at (below_drewN b5 j6) h6; clear h6)
              | (go_at_call 30; refine S1.mono ?_; rintro en w5 ⟨rfl, j5, h5⟩; have b5 := below_at (below_drewN b4 j5) h5; have H5 := hideIt h5; clear h5))
            go_ret
            exact ⟨rfl, b6⟩
          · have S1 := SameByteLists_calls _ _ _ _ _ _ _ _ _ _ _ om6 om5 false (decide_eq_false e2).symm
            clear e2 om5 om6 gk5 gk6
            go_wp2_with (first
              | (go_at_call 25; refine (num_calls _ _).mono ?_; rintro en wx ⟨rfl, rfl⟩)
              | (go_at_call 30; refine S1.mono ?_; rintro en w5 ⟨rfl, j5, h5⟩; have b5 := below_at (below_drewN b4 j5) h5; clear h5))
            go_ret
            exact ⟨rfl, b5⟩
        · have tv : (v' == v) = false := beq_eq_false_iff_ne.2 e1
          clear e1 om5 om6 gk5 gk6
          go_wp2_with (go_at_call 25; refine (num_calls _ _).mono ?_; rintro en wx ⟨rfl, rfl⟩)
          go_ret
          exact ⟨rfl, b4⟩
end Go.Proofs.Ythboanaogfmefaa
/- coppicelaw5.BranchOneForm. -/
namespace Go.Proofs.Ythboanaogfmefaa
open Go.RowKit

set_option maxRecDepth 100000 in
set_option maxHeartbeats 1000000 in
theorem BranchOneForm_walk (A0 : Option Addr) (n0 c0 : Nat) (b : List UInt8) (level : Int) (A : Option Addr) (n c : Nat) (vs : List Value) (l : List (List UInt8)) (B : Option Addr) (m d : Nat) (ks : List (Int × Int)) (at_ : Int) (x : UInt8) (w : World) (h0 : RB w A0 n0 c0 b) (_y0 : n0 ≤ 140737488351232) (_hz : -9223372036854775808 ≤ level ∧ level ≤ 9223372036854775807) (h : RM w A n c vs l) (hk : RK w B m d ks) (ha : -9223372036854775808 ≤ at_ ∧ at_ ≤ 9223372036854775807) :
    Calls Try.prog 8 #[.slice A0 n0 c0, .int .i64 level, .slice A n c, .slice B m d, .int .i64 at_, .int .u8 (x.toNat : Int)] w fun e w' => e = .returned (.bool true) ∧ Below w.heap.size w w' := by
  have FW := fun W q => few_calls A n c vs l B m d W q
  obtain ⟨f, hf⟩ : ∃ f, fewS l m = f := ⟨_, rfl⟩
  rw [hf] at FW
  have HF := hideIt hf
  clear hf
  go_enter Try.func8, Try.ntmps8
  go_upto_region 2 with (go_at_call 12; refine (first_calls _).mono ?_; rintro en w1 ⟨rfl, b1⟩)
  have h01 := h0.below b1
  have h1 := h.below b1
  have hk1 := hk.below b1
  by_cases hn : n0 ≤ 65536
  · have t1 : decide ((65536 : Int) < (n0 : Int)) = false := decide_eq_false (by omega)
    cases f
    · go_wp2_with (go_at_call 13; refine (FW _ h1).mono ?_; rintro en wx ⟨rfl, rfl⟩)
      go_ret
      exact ⟨rfl, b1⟩
    · have EN := Encode_calls level _ _ _ _ _ _ _ _ _ _ h1 (few_few HF.out h.len) hk1
      generalize encB level l ks = eb at EN
      go_upto_region 4 with (go_at_call 13; refine (FW _ h1).mono ?_; rintro en wx ⟨rfl, rfl⟩)
      go_upto_region 5 with (go_at_call 21; refine EN.mono ?_; rintro en w2 ⟨A2, n2, rfl, g2, x2⟩)
      have r2 := GB.read g2
      have h02 := h01.below x2
      have b2 := blw_step b1 x2
      clear EN FW h1 hk1 h hk h0 h01 b1 g2 x2
      go_upto_region 6 with (go_at_call 32; refine (oneForm_calls _ _ _ _ _ _ _ h02 ha).mono ?_; rintro en w3 ⟨rfl, x3⟩)
      have r3 := r2.below x3
      have b3 := blw_step b2 x3
      clear h02 r2 b2 x3
      go_wp2_with (go_at_call 32; refine (oneForm_calls _ _ _ _ _ _ _ r3 ha).mono ?_; rintro en w4 ⟨rfl, x4⟩)
      go_ret
      exact ⟨rfl, blw_step b3 x4⟩
  · have t1 : decide ((65536 : Int) < (n0 : Int)) = true := decide_eq_true (by omega)
    clear hn
    go_wp2
    go_ret
    exact ⟨rfl, b1⟩
end Go.Proofs.Ythboanaogfmefaa
