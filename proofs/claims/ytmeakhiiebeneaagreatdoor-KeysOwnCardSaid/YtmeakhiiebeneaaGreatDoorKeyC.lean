/- Walks of the chapter of keys: Clone, Separator, Valid, Within, and the document's own. -/
import Derived.Test.YtmeakhiiebeneaaGreatDoorKeyB
import Derived.Lib.SliceRun
namespace Go.Proofs.YtmeakhiiebeneaaGreatDoor
open Go.RowKit

set_option maxRecDepth 100000 in
set_option maxHeartbeats 400000 in
theorem num_calls (k : Int) (w : World) : Calls Tryz.prog 16 #[.int .i64 k] w fun e w' => e = .returned (.int .i64 k) ∧ w = w' := by
  go_enter Tryz.func16, Tryz.ntmps16
  go_wp2
  go_ret
  exact ⟨rfl, rfl⟩


theorem below_of_drewN {w : World} {e : Ending} {v : Value} : ∀ {w' : World}, (e = .returned v ∧ ∃ j, w' = w.drewN j) → e = .returned v ∧ Below w.heap.size w w' := by
  rintro w' ⟨h, j, rfl⟩
  exact ⟨h, below_drewN (Below.refl _ _) j⟩
theorem Common_below (A A' : Option Addr) (n c n' c' : Nat) (xs ys : List UInt8) (w : World) (h : RB w A n c xs) (h' : RB w A' n' c' ys) (hb : n ≤ 140737488351232) (hb' : n' ≤ 140737488351232) :
    Calls Tryz.prog 15 #[.slice A n c, .slice A' n' c'] w fun e w' => e = .returned (.int .i64 (Key.com xs ys : Nat)) ∧ Below w.heap.size w w' :=
  (Common_calls A A' n c n' c' xs ys w h h' (by omega) (by omega)).mono fun _ _ q => below_of_drewN q
theorem refCommon_below (A A' : Option Addr) (n c n' c' : Nat) (xs ys : List UInt8) (w : World) (h : RB w A n c xs) (h' : RB w A' n' c' ys) (hb : n ≤ 140737488351232) (hb' : n' ≤ 140737488351232) :
    Calls Tryz.prog 18 #[.slice A n c, .slice A' n' c'] w fun e w' => e = .returned (.int .i64 (Key.com xs ys : Nat)) ∧ Below w.heap.size w w' :=
  (refCommon_calls A A' n c n' c' xs ys w h h' (by omega) (by omega)).mono fun _ _ q => below_of_drewN q
theorem refCompare_below (A A' : Option Addr) (n c n' c' : Nat) (xs ys : List UInt8) (w : World) (h : RB w A n c xs) (h' : RB w A' n' c' ys) (hb : n ≤ 140737488351232) (hb' : n' ≤ 140737488351232) :
    Calls Tryz.prog 17 #[.slice A n c, .slice A' n' c'] w fun e w' => e = .returned (.int .i64 (Key.cmpB xs ys)) ∧ Below w.heap.size w w' :=
  (refCompare_calls A A' n c n' c' xs ys w h h' (by omega) (by omega)).mono fun _ _ q => below_of_drewN q

theorem own_empty (w : World) : OB (w.alloc (.cells #[] 5)) w.heap.size 0 0 [] := RB.lit w [] 0 rfl (Nat.zero_le _)
theorem some_of {w : World} {A : Option Addr} {n c : Nat} {xs : List UInt8} (h : RB w A n c xs) (hn : 0 < n) : ∃ ad, A = some ad := by
  obtain ⟨ad, e, _⟩ := h.addr (by rw [h.len]; exact hn)
  exact ⟨ad, e⟩

set_option maxRecDepth 100000 in
set_option maxHeartbeats 1000000 in
theorem Clone_calls (ad : Addr) (n c : Nat) (xs : List UInt8) (w : World) (h : RB w (some ad) n c xs) (hb : n ≤ 140737488351232) :
    Calls Tryz.prog 63 #[.slice (some ad) n c] w fun e w' => ∃ g c', e = .returned (.slice (some ⟨g, 0, none⟩) n c') ∧ w.heap.size ≤ g ∧ OB w' g n c' xs ∧ Below w.heap.size w w' := by
  have q22 : ∀ (w : World) (a : Option Addr) (n c n' c' : Nat), (binOp .eql 40 (.slice a n c) (.slice none n' c')).run Tryz.prog w = .ok (.bool a.isNone) w := fun w a n c n' c' => Lib.run_eql_slice_nil w _ _ a n c n' c' Tryz.underlying40
  go_enter Tryz.func63, Tryz.ntmps63
  go_wp2_with (at_builtin; refine wpB_app rfl _ _ rfl _ _ _ _ rfl (own_empty w) _ _ _ _ rfl (h.below ((Below.refl _ _).alloc (Nat.le_refl _) (.cells #[] 5))) n (by omega) (by omega) ?_; intro g2 c2 w2 q2 p2 o2 k2)
  go_ret
  have q2' : g2 = w.heap.size ∨ w.heap.size + 1 ≤ g2 := by simpa using q2
  exact ⟨_, _, rfl, by omega, o2, ((Below.refl _ _).alloc (Nat.le_refl _) _).grown k2 (by simp) (by simp)⟩

/-- What a Separator answers: new bytes and OK, or nil and the number of ErrOrder. -/
structure SepPost (w : World) (xs ys : List UInt8) (A : Option Addr) (n c : Nat) (k : Int) (w' : World) : Prop where
  ok : Key.cmpB xs ys = -1 → k = 0 ∧ n = Key.com xs ys + 1 ∧ RB w' A n c (ys.take (Key.com xs ys + 1))
  no : Key.cmpB xs ys ≠ -1 → k = 30 ∧ n = 0 ∧ RB w' A n c []
  below : Below w.heap.size w w'

theorem RB.nil' (w : World) : RB w none 0 0 [] := RB.nil w
set_option maxRecDepth 100000 in
set_option maxHeartbeats 1000000 in
theorem Separator_calls (A A' : Option Addr) (n c n' c' : Nat) (xs ys : List UInt8) (w : World) (h : RB w A n c xs) (h' : RB w A' n' c' ys) (hb : n ≤ 140737488351232) (hb' : n' ≤ 140737488351232) :
    Calls Tryz.prog 10 #[.slice A n c, .slice A' n' c'] w fun e w' => ∃ A1 n1 c1 k, e = .returned (.tuple #[.slice A1 n1 c1, .int .i64 k]) ∧ SepPost w xs ys A1 n1 c1 k w' := by
  obtain ⟨x, hx⟩ : ∃ x, Key.cmpB xs ys = x := ⟨_, rfl⟩
  have three := Key.cmpB_three xs ys
  rw [hx] at three
  by_cases hlt : x = -1
  · have sep := (Key.sep xs ys (by rw [hx, hlt])).1
    rw [h'.len] at sep
    obtain ⟨r, hr⟩ : ∃ r, Key.com xs ys = r := ⟨_, rfl⟩
    rw [hr] at sep
    have cl := RC.le h'
    have hx' := hideIt hx
    have hr' := hideIt hr
    clear hx hr three
    subst hlt
    obtain ⟨ad', rfl⟩ := some_of h' (by omega)
    go_enter Tryz.func10, Tryz.ntmps10
    go_wp2_with (first
      | (go_at_call 63; refine (Clone_calls _ _ _ _ _ t2 (by omega)).mono ?_; rintro e w3 ⟨g3, c3, rfl, s3, o3, b3⟩)
      | (go_at_call 15; refine (Common_below _ _ _ _ _ _ _ _ _ h h' (by omega) (by omega)).mono ?_; rintro e w2 ⟨rfl, b2⟩; rw [hr'.out]; have t2 := (h'.below b2).take (r + 1) (by omega))
      | (go_at_call 13; refine (Compare_calls _ _ _ _ _ _ _ _ _ h h').mono ?_; rintro e w1 ⟨rfl, rfl⟩; rw [hx'.out]))
    go_ret2
    refine ⟨_, _, _, _, rfl, ?_, ?_, b2.trans (b3.mono b2.size)⟩
    · intro _
      rw [hr'.out]
      exact ⟨rfl, rfl, o3.read⟩
    · intro q; exact absurd hx'.out q
  · have hge : 0 ≤ x := by omega
    have hx' := hideIt hx
    clear hx three
    go_enter Tryz.func10, Tryz.ntmps10
    go_wp2_with (go_at_call 13; refine (Compare_calls _ _ _ _ _ _ _ _ _ h h').mono ?_; rintro e w1 ⟨rfl, rfl⟩; rw [hx'.out])
    go_ret2
    refine ⟨_, _, _, _, rfl, ?_, fun _ => ⟨rfl, rfl, RB.nil _⟩, Below.refl _ _⟩
    intro q; rw [hx'.out] at q; omega

set_option maxRecDepth 100000 in
set_option maxHeartbeats 1000000 in
theorem refSeparator_calls (A A' : Option Addr) (n c n' c' : Nat) (xs ys : List UInt8) (w : World) (h : RB w A n c xs) (h' : RB w A' n' c' ys) (hb : n ≤ 140737488351232) (hb' : n' ≤ 140737488351232) :
    Calls Tryz.prog 11 #[.slice A n c, .slice A' n' c'] w fun e w' => ∃ A1 n1 c1 k, e = .returned (.tuple #[.slice A1 n1 c1, .int .i64 k]) ∧ SepPost w xs ys A1 n1 c1 k w' := by
  obtain ⟨x, hx⟩ : ∃ x, Key.cmpB xs ys = x := ⟨_, rfl⟩
  have three := Key.cmpB_three xs ys
  rw [hx] at three
  by_cases hlt : x = -1
  · have sep := (Key.sep xs ys (by rw [hx, hlt])).1
    rw [h'.len] at sep
    obtain ⟨r, hr⟩ : ∃ r, Key.com xs ys = r := ⟨_, rfl⟩
    rw [hr] at sep
    have cl := RC.le h'
    have hx' := hideIt hx
    have hr' := hideIt hr
    clear hx hr three
    subst hlt
    obtain ⟨ad', rfl⟩ := some_of h' (by omega)
    go_enter Tryz.func11, Tryz.ntmps11
    go_wp2_with (first
      | (go_at_call 22; refine (Bytes_calls _ _ _ _ _ t2 (by omega)).mono ?_; rintro e w3 ⟨g3, c3, rfl, s3, o3, b3⟩)
      | (go_at_call 18; refine (refCommon_below _ _ _ _ _ _ _ _ _ h1 h1' (by omega) (by omega)).mono ?_; rintro e w2 ⟨rfl, b2'⟩; rw [hr'.out]; have b2 := b1.trans (b2'.mono b1.size); have t2 := (h'.below b2).take (r + 1) (by omega))
      | (go_at_call 17; refine (refCompare_below _ _ _ _ _ _ _ _ _ h h' (by omega) (by omega)).mono ?_; rintro e w1 ⟨rfl, b1⟩; rw [hx'.out]; have h1 := h.below b1; have h1' := h'.below b1))
    go_ret2
    refine ⟨_, _, _, _, rfl, ?_, ?_, b2.trans (b3.mono b2.size)⟩
    · intro _
      rw [hr'.out]
      exact ⟨rfl, rfl, o3.read⟩
    · intro q; exact absurd hx'.out q
  · have hge : 0 ≤ x := by omega
    have hx' := hideIt hx
    clear hx three
    go_enter Tryz.func11, Tryz.ntmps11
    go_wp2_with (go_at_call 17; refine (refCompare_below _ _ _ _ _ _ _ _ _ h h' (by omega) (by omega)).mono ?_; rintro e w1 ⟨rfl, b1⟩; rw [hx'.out])
    go_ret2
    refine ⟨_, _, _, _, rfl, ?_, fun _ => ⟨rfl, rfl, RB.nil _⟩, b1⟩
    intro q; rw [hx'.out] at q; omega
end Go.Proofs.YtmeakhiiebeneaaGreatDoor
