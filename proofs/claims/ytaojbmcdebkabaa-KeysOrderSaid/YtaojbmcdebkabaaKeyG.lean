/- The walks of the laws KeysCompares, KeysSeparates, KeysWithin, KeysCommon (but for the list's opening), KeysPrefix. -/
import Derived.Test.YtaojbmcdebkabaaKeyF
namespace Go.Proofs.Ytaojbmcdebkabaa
open Go.RowKit

theorem refCompare_below' (A A' : Option Addr) (n c n' c' : Nat) (xs ys : List UInt8) (w : World) (h : RB w A n c xs) (h' : RB w A' n' c' ys) :
    Calls Try.prog 12 #[.slice A n c, .slice A' n' c'] w fun e w' => e = .returned (.int .i64 (Key.cmpB xs ys)) ∧ Below w.heap.size w w' :=
  (refCompare_calls A A' n c n' c' xs ys w h h' h.max h'.max).mono fun _ _ q => below_of_drewN q
theorem Common_below' (A A' : Option Addr) (n c n' c' : Nat) (xs ys : List UInt8) (w : World) (h : RB w A n c xs) (h' : RB w A' n' c' ys) :
    Calls Try.prog 13 #[.slice A n c, .slice A' n' c'] w fun e w' => e = .returned (.int .i64 (Key.com xs ys : Nat)) ∧ Below w.heap.size w w' :=
  (Common_calls A A' n c n' c' xs ys w h h' h.max h'.max).mono fun _ _ q => below_of_drewN q
theorem refCommon_below' (A A' : Option Addr) (n c n' c' : Nat) (xs ys : List UInt8) (w : World) (h : RB w A n c xs) (h' : RB w A' n' c' ys) :
    Calls Try.prog 15 #[.slice A n c, .slice A' n' c'] w fun e w' => e = .returned (.int .i64 (Key.com xs ys : Nat)) ∧ Below w.heap.size w w' :=
  (refCommon_calls A A' n c n' c' xs ys w h h' h.max h'.max).mono fun _ _ q => below_of_drewN q
theorem refCommonAll_below (A : Option Addr) (n c : Nat) (vs : List Value) (xss : List (List UInt8)) (w : World) (h : RM w A n c vs xss) :
    Calls Try.prog 16 #[.slice A n c] w fun e w' => e = .returned (.int .i64 (Key.comAll xss : Nat)) ∧ Below w.heap.size w w' :=
  (refCommonAll_calls A n c vs xss w h).mono fun _ _ q => below_of_drewN q

set_option maxHeartbeats 1000000 in
theorem KeysCompares_walk (A0 : Option Addr) (n0 c0 : Nat) (xs : List UInt8) (A1 : Option Addr) (n1 c1 : Nat) (ys : List UInt8) (w : World)
    (hx : RB w A0 n0 c0 xs) (_hb0 : n0 ≤ 140737488351232) (hy : RB w A1 n1 c1 ys) (_hb1 : n1 ≤ 140737488351232) :
    Calls Try.prog 3 #[.slice A0 n0 c0, .slice A1 n1 c1] w fun e w' => e = .returned (.bool true) ∧ Below w.heap.size w w' := by
  obtain ⟨r, hr⟩ : ∃ r, Key.cmpB xs ys = r := ⟨_, rfl⟩
  have HR := hideIt hr
  clear hr
  go_enter Try.func3, Try.ntmps3
  go_wp2_with (first
    | (go_at_call 12; refine (refCompare_below' _ _ _ _ _ _ _ _ _ (hx.below b1) (hy.below b1)).mono ?_; rintro e w3 ⟨rfl, b3'⟩; rw [HR.out]; have b3 := b1.trans (b3'.mono b1.size))
    | (go_at_call 11; refine (Compare_calls _ _ _ _ _ _ _ _ _ (hx.below b1) (hy.below b1)).mono ?_; rintro e w2 ⟨rfl, rfl⟩; rw [HR.out])
    | (go_at_call 10; refine (first_calls _).mono ?_; rintro e w1 ⟨rfl, b1⟩))
  go_ret
  exact ⟨rfl, b3⟩

set_option maxHeartbeats 1000000 in
theorem KeysSeparates_walk (A0 : Option Addr) (n0 c0 : Nat) (xs : List UInt8) (A1 : Option Addr) (n1 c1 : Nat) (ys : List UInt8) (w : World)
    (hx : RB w A0 n0 c0 xs) (_hb0 : n0 ≤ 140737488351232) (hy : RB w A1 n1 c1 ys) (_hb1 : n1 ≤ 140737488351232) :
    Calls Try.prog 5 #[.slice A0 n0 c0, .slice A1 n1 c1] w fun e w' => e = .returned (.bool true) ∧ Below w.heap.size w w' := by
  by_cases hlt : Key.cmpB xs ys = -1
  · go_enter Try.func5, Try.ntmps5
    go_wp2_with (first
      | (go_at_call 20; refine (num_calls _ _).mono ?_; rintro e w9 ⟨rfl, rfl⟩)
      | (go_at_call 19; refine (SameBytes_calls _ _ _ _ _ _ _ _ _ (r2.below p3.below) r3 true (by simp)).mono ?_; rintro e w9 ⟨rfl, rfl⟩)
      | (go_at_call 18; refine (refSeparator_calls _ _ _ _ _ _ _ _ _ (hx.below b2) (hy.below b2) (by omega) (by omega)).mono ?_; rintro e w3 ⟨A3, n3, c3, k3, rfl, p3⟩; obtain ⟨rfl, e3, r3⟩ := p3.ok hlt; have b3 := b2.trans (p3.below.mono b2.size); clear e3)
      | (go_at_call 17; refine (Separator_calls _ _ _ _ _ _ _ _ _ (hx.below b1) (hy.below b1) (by omega) (by omega)).mono ?_; rintro e w2 ⟨A2, n2, c2, k2, rfl, p2⟩; obtain ⟨rfl, e2, r2⟩ := p2.ok hlt; have b2 := b1.trans (p2.below.mono b1.size); clear e2)
      | (go_at_call 10; refine (first_calls _).mono ?_; rintro e w1 ⟨rfl, b1⟩))
    go_ret
    exact ⟨rfl, b3⟩
  · go_enter Try.func5, Try.ntmps5
    go_wp2_with (first
      | (go_at_call 20; refine (num_calls _ _).mono ?_; rintro e w9 ⟨rfl, rfl⟩)
      | (go_at_call 19; refine (SameBytes_calls _ _ _ _ _ _ _ _ _ (r2.below p3.below) r3 true (by simp)).mono ?_; rintro e w9 ⟨rfl, rfl⟩)
      | (go_at_call 18; refine (refSeparator_calls _ _ _ _ _ _ _ _ _ (hx.below b2) (hy.below b2) (by omega) (by omega)).mono ?_; rintro e w3 ⟨A3, n3, c3, k3, rfl, p3⟩; obtain ⟨rfl, e3, r3⟩ := p3.no hlt; have b3 := b2.trans (p3.below.mono b2.size); clear e3)
      | (go_at_call 17; refine (Separator_calls _ _ _ _ _ _ _ _ _ (hx.below b1) (hy.below b1) (by omega) (by omega)).mono ?_; rintro e w2 ⟨A2, n2, c2, k2, rfl, p2⟩; obtain ⟨rfl, e2, r2⟩ := p2.no hlt; have b2 := b1.trans (p2.below.mono b1.size); clear e2)
      | (go_at_call 10; refine (first_calls _).mono ?_; rintro e w1 ⟨rfl, b1⟩))
    go_ret
    exact ⟨rfl, b3⟩

set_option maxHeartbeats 1000000 in
theorem KeysWithin_walk (A0 : Option Addr) (n0 c0 : Nat) (xs : List UInt8) (A1 : Option Addr) (n1 c1 : Nat) (ys : List UInt8) (A2 : Option Addr) (n2 c2 : Nat) (zs : List UInt8) (w : World)
    (hx : RB w A0 n0 c0 xs) (_hb0 : n0 ≤ 140737488351232) (hy : RB w A1 n1 c1 ys) (_hb1 : n1 ≤ 140737488351232) (hz : RB w A2 n2 c2 zs) (_hb2 : n2 ≤ 140737488351232) :
    Calls Try.prog 6 #[.slice A0 n0 c0, .slice A1 n1 c1, .slice A2 n2 c2] w fun e w' => e = .returned (.bool true) ∧ Below w.heap.size w w' := by
  obtain ⟨v, hv⟩ : ∃ v, v = decide (1 ≤ n0 ∧ n0 ≤ 255) := ⟨_, rfl⟩
  obtain ⟨u, hu⟩ : ∃ u, u = within xs ys zs := ⟨_, rfl⟩
  have HV := hideIt hv
  have HU := hideIt hu
  clear hv hu
  go_enter Try.func6, Try.ntmps6
  go_wp2_with (first
    | (go_at_call 24; refine (refWithin_calls _ _ _ _ _ _ _ _ _ _ _ _ _ (hx.below b1) (hy.below b1) (hz.below b1) u HU.out).mono ?_; rintro e w3 ⟨rfl, b3'⟩; have b3 := b1.trans (b3'.mono b1.size))
    | (go_at_call 23; refine (refValid_calls _ _ _ _ v HV.out).mono ?_; rintro e w2 ⟨rfl, rfl⟩)
    | (go_at_call 22; refine (Within_calls _ _ _ _ _ _ _ _ _ _ _ _ _ (hx.below b1) (hy.below b1) (hz.below b1) u HU.out).mono ?_; rintro e w2 ⟨rfl, rfl⟩)
    | (go_at_call 21; refine (Valid_calls _ _ _ _ v HV.out).mono ?_; rintro e w2 ⟨rfl, rfl⟩)
    | (go_at_call 10; refine (first_calls _).mono ?_; rintro e w1 ⟨rfl, b1⟩))
  go_ret
  exact ⟨rfl, b3⟩

set_option maxHeartbeats 1000000 in
theorem KeysCommon_walk (A0 : Option Addr) (n0 c0 : Nat) (xs : List UInt8) (A1 : Option Addr) (n1 c1 : Nat) (ys : List UInt8) (A2 : Option Addr) (n2 c2 : Nat) (vs : List Value) (zss : List (List UInt8)) (w : World)
    (hx : RB w A0 n0 c0 xs) (_hb0 : n0 ≤ 140737488351232) (hy : RB w A1 n1 c1 ys) (_hb1 : n1 ≤ 140737488351232) (hz : RM w A2 n2 c2 vs zss) :
    Calls Try.prog 4 #[.slice A0 n0 c0, .slice A1 n1 c1, .slice A2 n2 c2] w fun e w' => e = .returned (.bool true) ∧ Below w.heap.size w w' := by
  obtain ⟨r, hr⟩ : ∃ r, Key.com xs ys = r := ⟨_, rfl⟩
  obtain ⟨q, hq⟩ : ∃ q, Key.comAll zss = q := ⟨_, rfl⟩
  have HR := hideIt hr
  have HQ := hideIt hq
  clear hr hq
  go_enter Try.func4, Try.ntmps4
  go_wp2_with (first
    | (go_at_call 16; refine (refCommonAll_below _ _ _ _ _ _ (hz.below b4)).mono ?_; rintro e w5 ⟨rfl, b5'⟩; rw [HQ.out]; have b5 := b4.trans (b5'.mono b4.size))
    | (go_at_call 15; refine (refCommon_below' _ _ _ _ _ _ _ _ _ (hx.below b3) (hy.below b3)).mono ?_; rintro e w4 ⟨rfl, b4'⟩; rw [HR.out]; have b4 := b3.trans (b4'.mono b3.size))
    | (go_at_call 14; refine (CommonAll_calls _ _ _ _ _ _ (hz.below b2)).mono ?_; rintro e w3 ⟨rfl, b3'⟩; rw [HQ.out]; have b3 := b2.trans (b3'.mono b2.size))
    | (go_at_call 13; refine (Common_below' _ _ _ _ _ _ _ _ _ (hx.below b1) (hy.below b1)).mono ?_; rintro e w2 ⟨rfl, b2'⟩; rw [HR.out]; have b2 := b1.trans (b2'.mono b1.size))
    | (go_at_call 10; refine (first_calls _).mono ?_; rintro e w1 ⟨rfl, b1⟩))
  go_ret
  exact ⟨rfl, b5⟩
end Go.Proofs.Ytaojbmcdebkabaa
