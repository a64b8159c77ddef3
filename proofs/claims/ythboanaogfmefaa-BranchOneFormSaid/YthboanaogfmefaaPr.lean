/- coppicelaw5: num, few, lentKids, stayKids. -/
import Derived.Test.YthboanaogfmefaaPl
namespace Go.Proofs.Ythboanaogfmefaa
open Go.RowKit

theorem num_calls (z : Int) (w : World) : Calls Try.prog 25 #[.int .i64 z] w fun e w' => e = .returned (.int .i64 z) ∧ w = w' := by
  go_enter Try.func25, Try.ntmps25
  go_wp2
  go_ret
  exact ⟨rfl, rfl⟩
def fewS (l : List (List UInt8)) (m : Nat) : Bool := decide (l.length ≤ 2000) && (decide (m ≤ 2000) && l.all (fun s => decide (s.length ≤ 4096)))
theorem few_of {l : List (List UInt8)} {m : Nat} (h : fewS l m = true) : l.length ≤ 2000 ∧ m ≤ 2000 ∧ ∀ s ∈ l, s.length ≤ 4096 := by
  unfold fewS at h
  rw [Bool.and_eq_true, Bool.and_eq_true, List.all_eq_true] at h
  exact ⟨of_decide_eq_true h.1, of_decide_eq_true h.2.1, fun s hs => of_decide_eq_true (h.2.2 s hs)⟩
set_option maxRecDepth 100000 in
set_option maxHeartbeats 1000000 in
theorem few_calls (A : Option Addr) (n c : Nat) (vs : List Value) (l : List (List UInt8)) (B : Option Addr) (m d : Nat) (w : World) (h : RM w A n c vs l) :
    Calls Try.prog 13 #[.slice A n c, .slice B m d] w fun e w' => e = .returned (.bool (fewS l m)) ∧ w = w' := by
  have HL := hideIt h.len
  by_cases h1 : n ≤ 2000
  · have i1 : decide ((2000 : Int) < (n : Int)) = false := decide_eq_false (by omega)
    by_cases h2 : m ≤ 2000
    · have i2 : decide ((2000 : Int) < (m : Int)) = false := decide_eq_false (by omega)
      obtain ⟨r, hr⟩ : ∃ r, l.all (fun s => decide (s.length ≤ 4096)) = r := ⟨_, rfl⟩
      have e : fewS l m = r := by unfold fewS; rw [HL.out, decide_eq_true h1, decide_eq_true h2, hr]; rfl
      rw [e]
      have H0 : Hid ((l.drop 0).all (fun s => decide (s.length ≤ 4096)) = r) := hideIt hr
      clear e hr
      go_enter Try.func13, Try.ntmps13
      go_wp2
      go_loopw [5] (fun ii wr => ∃ i, i ≤ n ∧ ii = .int .i64 (i : Int) ∧ Hid ((l.drop i).all (fun s => decide (s.length ≤ 4096)) = r) ∧ w = wr)
        (fun ii _ => n - (intOf ii).toNat)
      case atStart => exact ⟨0, by omega, rfl, H0, by trivial⟩
      case round =>
        clear H0
        obtain ⟨i, hi, rfl, H, rfl⟩ := hrel
        by_cases hlt : i < n
        · obtain ⟨ad, Ai, ni, ci, s, rfl, hs, cell, rs⟩ := h.row i hlt
          have st := all_step (f := fun s : List UInt8 => decide (s.length ≤ 4096)) hs
          rw [H.out, rs.len] at st
          have j1 : (i : Int) < (n : Int) := by omega
          by_cases hn : ni ≤ 4096
          · rw [decide_eq_true hn, Bool.true_and] at st
            have ST := hideIt st.symm
            have j2 : decide ((4096 : Int) < (ni : Int)) = false := decide_eq_false (by omega)
            clear st hs
            go_wp2
            go_roundw
            case rel => exact ⟨i + 1, by omega, by go_num, ST, by trivial⟩
            case measure => simp [intOf]; omega
          · rw [decide_eq_false hn, Bool.false_and] at st
            subst st
            have j2 : decide ((4096 : Int) < (ni : Int)) = true := decide_eq_true (by omega)
            clear hs
            go_wp2
            go_ret
            exact ⟨rfl, rfl⟩
        · obtain rfl : n = i := by omega
          rw [all_end (by rw [HL.out]; exact Nat.le_refl _)] at H
          obtain rfl := H.out
          clear H
          go_wp2
          go_ret
          exact ⟨rfl, rfl⟩
    · have i2 : decide ((2000 : Int) < (m : Int)) = true := decide_eq_true (by omega)
      have e : fewS l m = false := by unfold fewS; rw [decide_eq_false h2, Bool.false_and, Bool.and_false]
      rw [e]
      clear e h2
      go_enter Try.func13, Try.ntmps13
      go_wp2
      go_ret
      exact ⟨rfl, rfl⟩
  · have i1 : decide ((2000 : Int) < (n : Int)) = true := decide_eq_true (by omega)
    have e : fewS l m = false := by unfold fewS; rw [HL.out, decide_eq_false h1, Bool.false_and]
    rw [e]
    clear e h1
    go_enter Try.func13, Try.ntmps13
    go_wp2
    go_ret
    exact ⟨rfl, rfl⟩

/-- Kids in new memory, one more behind them. -/
def LK (w : World) (base : Nat) (A : Option Addr) (n c : Nat) (l : List (Int × Int)) : Prop := ∃ g, A = some ⟨g, 0, none⟩ ∧ base ≤ g ∧ OC w 37 2 g (n + 1) c (kidCells (l ++ [(201, 202)]))
theorem LK.below {w w' : World} {base n c : Nat} {A : Option Addr} {l : List (Int × Int)} (h : LK w base A n c l) (b : Below w.heap.size w w') : LK w' base A n c l := by
  obtain ⟨g, e, hb, o⟩ := h
  exact ⟨g, e, hb, o.below b⟩
theorem LK.len {w : World} {base n c : Nat} {A : Option Addr} {l : List (Int × Int)} (h : LK w base A n c l) : l.length = n := by
  obtain ⟨g, e, hb, o⟩ := h
  have := o.1
  rw [kidCells_length, List.length_append] at this
  simp at this
  omega
theorem LK.read {w : World} {base n c : Nat} {A : Option Addr} {l : List (Int × Int)} (h : LK w base A n c l) : RK w A n c l := by
  have hl := h.len
  obtain ⟨g, rfl, hb, o⟩ := h
  have := OC.read (o.take n (by omega))
  rw [kidCells_append, List.take_left' (by rw [kidCells_length, hl])] at this
  exact this
set_option maxRecDepth 100000 in
set_option maxHeartbeats 1000000 in
theorem lentKids_calls (A : Option Addr) (n c : Nat) (l : List (Int × Int)) (w : World) (h : RK w A n c l) (hn : n ≤ 800000) :
    Calls Try.prog 20 #[.slice A n c] w fun e w' => ∃ (A' : Option Addr) (c' : Nat), e = .returned (.slice A' n c') ∧ LK w' w.heap.size A' n c' l ∧ Below w.heap.size w w' := by
  go_enter Try.func20, Try.ntmps20
  go_upto_region 2 with (first
    | (with_reducible refine wpK_app rfl (.tmp 5) (.tmp 7) rfl w.heap.size _ _ _ _ rfl gk2 _ (201, 202) rfl K2 (by omega) b2.size ?_; intro g3 c3 w3 q3 gk3 k3)
    | (go_at_call 22; refine (Kids_calls _ _ _ _ _ h (by omega)).mono ?_; rintro en w1 ⟨A1, c1, rfl, gk1, b1⟩; have ba := below1 w1 (.cells #[.int .i64 201, .int .i64 202] 37); have gk2 : GK _ w.heap.size A1 n c1 l := GC.below gk1 ba; have K2 := RK.one w1 201 202; have b2 := blw_step b1 ba))
  have b3 := GC.under gk2 b2 k3 b2.size
  rcases GC.oc gk3 with ⟨q, _⟩ | ⟨g, q, gb, o⟩
  · cases q
  cases q
  have hc := o.le
  have i1 : (n : Int) ≤ (c3 : Int) := by omega
  clear gk3 gk2 K2 b2 ba gk1 b1 k3
  go_wp2
  go_ret
  exact ⟨_, _, rfl, ⟨_, rfl, gb, o⟩, b3⟩
end Go.Proofs.Ythboanaogfmefaa
