/- KeysOwn's parts: roomy, Separator's memory. -/
import Derived.Test.YtmeakhiiebeneaaGreatDoorKp
import Derived.Test.YtmeakhiiebeneaaGreatDoorKeyF
namespace Go.Proofs.YtmeakhiiebeneaaGreatDoor
open Go.RowKit

def sepR (xs ys : List UInt8) : List UInt8 := if Key.cmpB xs ys = -1 then ys.take (Key.com xs ys + 1) else []
def sepK (xs ys : List UInt8) : Int := if Key.cmpB xs ys = -1 then 0 else 30
def SepOwn (xs ys : List UInt8) (m : Nat) (w : World) (e : Ending) (w' : World) : Prop :=
  ∃ (A1 : Option Addr) (n1 c1 : Nat), e = .returned (.tuple #[.slice A1 n1 c1, .int .i64 (sepK xs ys)]) ∧ GB w' w.heap.size A1 n1 c1 (sepR xs ys) ∧ n1 ≤ m ∧ Below w.heap.size w w'
theorem Separator_own (A A' : Option Addr) (n c n' c' : Nat) (xs ys : List UInt8) (w : World) (h : RB w A n c xs) (h' : RB w A' n' c' ys) (hb : n ≤ 140737488351232) (hb' : n' ≤ 140737488351232) :
    Calls Tryz.prog 10 #[.slice A n c, .slice A' n' c'] w (SepOwn xs ys n' w) := by
  obtain ⟨x, hx⟩ : ∃ x, Key.cmpB xs ys = x := ⟨_, rfl⟩
  have three := Key.cmpB_three xs ys
  rw [hx] at three
  by_cases hlt : x = -1
  · have sep := (Key.sep xs ys (by rw [hx, hlt])).1
    rw [h'.len] at sep
    obtain ⟨r, hr⟩ : ∃ r, Key.com xs ys = r := ⟨_, rfl⟩
    rw [hr] at sep
    have cl := RC.le h'
    have hx' := hideIt hx
    have hr' := hideIt hr
    clear hx hr three
    subst hlt
    obtain ⟨ad', rfl⟩ := some_of h' (by omega)
    go_enter Tryz.func10, Tryz.ntmps10
    go_wp2_with (first
      | (go_at_call 63; refine (Clone_calls _ _ _ _ _ t2 (by omega)).mono ?_; rintro e w3 ⟨g3, c3, rfl, s3, o3, b3⟩)
      | (go_at_call 15; refine (Common_below _ _ _ _ _ _ _ _ _ h h' (by omega) (by omega)).mono ?_; rintro e w2 ⟨rfl, b2⟩; rw [hr'.out]; have t2 := (h'.below b2).take (r + 1) (by omega))
      | (go_at_call 13; refine (Compare_calls _ _ _ _ _ _ _ _ _ h h').mono ?_; rintro e w1 ⟨rfl, rfl⟩; rw [hx'.out]))
    go_ret2
    have e1 : sepR xs ys = ys.take (r + 1) := by unfold sepR; rw [if_pos hx'.out, hr'.out]
    have e2 : sepK xs ys = 0 := by unfold sepK; rw [if_pos hx'.out]
    unfold SepOwn
    rw [e1, e2]
    exact ⟨_, _, _, rfl, GB.of o3 (Nat.le_trans b2.size s3), sep, b2.trans (b3.mono b2.size)⟩
  · have hge : 0 ≤ x := by omega
    have hx' := hideIt hx
    have hne := hideIt hlt
    clear hx three hlt
    go_enter Tryz.func10, Tryz.ntmps10
    go_wp2_with (go_at_call 13; refine (Compare_calls _ _ _ _ _ _ _ _ _ h h').mono ?_; rintro e w1 ⟨rfl, rfl⟩; rw [hx'.out])
    go_ret2
    have e1 : sepR xs ys = [] := by unfold sepR; rw [if_neg (by rw [hx'.out]; exact hne.out)]
    have e2 : sepK xs ys = 30 := by unfold sepK; rw [if_neg (by rw [hx'.out]; exact hne.out)]
    unfold SepOwn
    rw [e1, e2]
    exact ⟨_, _, _, rfl, GB.none_ _ _, Nat.zero_le _, Below.refl _ _⟩
theorem refSep_own (A A' : Option Addr) (n c n' c' : Nat) (xs ys : List UInt8) (w : World) (h : RB w A n c xs) (h' : RB w A' n' c' ys) (hb : n ≤ 140737488351232) (hb' : n' ≤ 140737488351232) :
    Calls Tryz.prog 11 #[.slice A n c, .slice A' n' c'] w fun e w' => ∃ A1 n1 c1, e = .returned (.tuple #[.slice A1 n1 c1, .int .i64 (sepK xs ys)]) ∧ RB w' A1 n1 c1 (sepR xs ys) ∧ Below w.heap.size w w' := by
  refine (refSeparator_calls A A' n c n' c' xs ys w h h' hb hb').mono ?_
  rintro e w' ⟨A1, n1, c1, k, rfl, p⟩
  by_cases q : Key.cmpB xs ys = -1
  · obtain ⟨rfl, _, r⟩ := p.ok q
    refine ⟨_, _, _, by unfold sepK; rw [if_pos q], ?_, p.below⟩
    unfold sepR; rw [if_pos q]; exact r
  · obtain ⟨rfl, _, r⟩ := p.no q
    refine ⟨_, _, _, by unfold sepK; rw [if_neg q], ?_, p.below⟩
    unfold sepR; rw [if_neg q]; exact r
def roomB (i : Nat) : UInt8 := UInt8.ofNat (47 + 11 * i)
def room40 (k : Nat) : List UInt8 := (List.range k).map roomB
theorem room40_succ (k : Nat) : room40 (k + 1) = room40 k ++ [roomB k] := by unfold room40; rw [List.range_succ, List.map_append]; rfl
theorem room40_length (k : Nat) : (room40 k).length = k := by unfold room40; simp
theorem roomB_wrap (i : Nat) : IntKind.u8.wrap (47 + 11 * (i : Int)) = ((roomB i).toNat : Int) := by
  unfold roomB
  rw [UInt8.toNat_ofNat', IntKind.wrap_u8]
  omega
set_option maxRecDepth 100000 in
set_option maxHeartbeats 1000000 in
theorem roomy_calls (A : Option Addr) (n c : Nat) (xs : List UInt8) (w : World) (hx : RB w A n c xs) (hb : n ≤ 4000) :
    Calls Tryz.prog 9 #[.slice A n c] w fun e w' => ∃ g c', e = .returned (.slice (some ⟨g, 0, none⟩) (n + 40) c') ∧ w.heap.size ≤ g ∧ OB w' g (n + 40) c' (xs ++ room40 40) ∧ Below w.heap.size w w' := by
  go_enter Tryz.func9, Tryz.ntmps9
  go_upto_region 3 with (go_at_call 22; refine (Bytes_calls _ _ _ xs _ hx (by omega)).mono ?_; rintro e w1 ⟨g1, c1, rfl, s1, o1, b1⟩)
  go_loopw [3, 4] (fun ll ii wr => ∃ (i g c1 : Nat), i ≤ 40 ∧ ll = .slice (some ⟨g, 0, none⟩) (n + i) c1 ∧ ii = .int .i64 (i : Int) ∧ w.heap.size ≤ g ∧ OB wr g (n + i) c1 (xs ++ room40 i) ∧ Below w.heap.size w wr)
    (fun _ ii _ => 40 - (intOf ii).toNat)
  case atStart => exact ⟨0, g1, c1, by omega, rfl, rfl, s1, by rw [show room40 0 = [] from rfl, List.append_nil]; exact o1, b1⟩
  case round =>
    clear hx o1 b1 s1
    obtain ⟨i, g, c2, hi, rfl, rfl, sg, o, b⟩ := hrel
    by_cases hlt : i < 40
    · have hw := roomB_wrap i
      have o2 := o.below ((Below.refl _ _).alloc (Nat.le_refl _) (.cells (u8s [roomB i]).toArray 5))
      have l2 := (RB.lit wr [roomB i] 1 rfl (by simp [maxLen])).read
      have ol := o.lt
      go_wp2_with (at_builtin; refine wpB_app rfl _ _ rfl _ _ _ _ rfl o2 _ _ _ [roomB i] rfl l2 (n + i + 1) rfl (by omega) ?_; intro g4 c4 w4 q4 p4 o4 k4)
      have z4 : wr.heap.size < (wr.alloc (.cells (u8s [roomB i]).toArray 5)).heap.size := by simp
      have q5 : w.heap.size ≤ g4 := by
        have := b.size
        rcases q4 with q | q
        · omega
        · have q : (wr.alloc (.cells (u8s [roomB i]).toArray 5)).heap.size ≤ g4 := q
          omega
      have o5 : OB w4 g4 (n + (i + 1)) c4 (xs ++ room40 (i + 1)) := by
        rw [room40_succ, ← List.append_assoc]; exact o4
      have b5 : Below w.heap.size w w4 := (b.alloc b.size _).grown k4 (by have := b.size; simp; omega) (fun k hk => by cases hk; exact sg)
      go_roundw
      case rel => exact ⟨i + 1, g4, c4, by omega, rfl, by go_num, q5, o5, b5⟩
      case measure => simp [intOf]; omega
    · obtain rfl : i = 40 := by omega
      go_wp2
      go_ret
      exact ⟨_, _, rfl, sg, o, b⟩
end Go.Proofs.YtmeakhiiebeneaaGreatDoor
