/- Walks of the chapter of keys: CommonAll, both. -/
import Derived.Test.YtmeakhiiebeneaaGreatDoorKeyC
import Derived.Test.YtmeakhiiebeneaaGreatDoorRM
namespace Go.Proofs.YtmeakhiiebeneaaGreatDoor
open Go.RowKit

/-- What the closure has captured: a cell with the list, its first row. -/
structure Cap (w : World) (g : Nat) (x0 : List UInt8) : Prop where
  cell : ∃ (ad : Addr) (n c : Nat) (A0 : Option Addr) (n0 c0 : Nat), w.cell? ⟨g, 0, none⟩ = some (.slice (some ad) n c) ∧ 0 < n ∧ w.cell? ad = some (.slice A0 n0 c0) ∧ RB w A0 n0 c0 x0

set_option maxRecDepth 100000 in
set_option maxHeartbeats 1000000 in
theorem take_calls (g : Nat) (x0 : List UInt8) (k : Nat) (A : Option Addr) (n c : Nat) (xs : List UInt8) (w : World) (hc : Cap w g x0) (hk : k ≤ x0.length) (h : RB w A n c xs) :
    Calls Tryz.prog 66 #[.int .i64 (k : Int), .slice A n c, .pointer (some ⟨g, 0, none⟩)] w fun e w' => e = .returned (.int .i64 (min k (Key.com x0 xs) : Nat)) ∧ ∃ j, w' = w.drewN j := by
  obtain ⟨ad, L, C, A0, n0, c0, hcell, hL, hrow, hr⟩ := hc
  obtain ⟨r, hr0⟩ : ∃ r, min k (Key.com x0 xs) = r := ⟨_, rfl⟩
  have e := Key.com_take x0 xs k hk
  rw [hr0] at e ⊢
  have HE := hideIt e
  clear e
  have HL := hideIt hr.len
  have hk0 : k ≤ n0 := by rw [← HL.out]; exact hk
  have hc0 : k ≤ c0 := Nat.le_trans hk0 (RC.le hr)
  have ht := hr.take k hk0
  have mk := hr.max
  have mn := h.max
  have l0 : (0 : Int) < (L : Int) := by omega
  go_enter Tryz.func66, Tryz.ntmps66
  go_wp2_with (go_at_call 15; refine (Common_calls _ _ _ _ _ _ _ _ _ ht h (by omega) (by omega)).mono ?_; rintro e w1 ⟨rfl, j, q⟩; have Q := hideIt q; clear q; rw [HE.out])
  go_ret
  exact ⟨rfl, j, Q.out⟩

theorem Cap.below {w w' : World} {g : Nat} {x0 : List UInt8} (h : Cap w g x0) (m : Nat) (e : w' = w.drewN m) : Cap w' g x0 := by
  obtain ⟨ad, L, C, A0, n0, c0, hcell, hL, hrow, hr⟩ := h
  subst e
  exact ⟨ad, L, C, A0, n0, c0, hcell, hL, hrow, drewB hr m⟩
theorem RM.drewN {w : World} {A : Option Addr} {n c : Nat} {vs : List Value} {xss : List (List UInt8)} (h : RM w A n c vs xss) (m : Nat) : RM (w.drewN m) A n c vs xss := h.below (below_drewN (Below.refl _ _) m)
def foldC (x0 : List UInt8) (k : Nat) (xss : List (List UInt8)) : Nat := xss.foldl (fun n s => min n (Key.com x0 s)) k
theorem foldC_step (x0 : List UInt8) (k i : Nat) (xss : List (List UInt8)) (x : List UInt8) (h : xss[i]? = some x) : foldC x0 k (xss.drop i) = foldC x0 (min k (Key.com x0 x)) (xss.drop (i + 1)) := by
  obtain ⟨hi, e⟩ := List.getElem?_eq_some_iff.1 h
  rw [List.drop_eq_getElem_cons hi, e]; rfl
theorem foldC_end (x0 : List UInt8) (k i : Nat) (xss : List (List UInt8)) (h : xss.length ≤ i) : foldC x0 k (xss.drop i) = k := by
  rw [List.drop_of_length_le h]; rfl

set_option maxRecDepth 100000 in
set_option maxHeartbeats 1000000 in
theorem fold_calls (g : Nat) (x0 : List UInt8) (k0 : Nat) (A : Option Addr) (n c : Nat) (vs : List Value) (xss : List (List UInt8)) (w : World) (hc : Cap w g x0) (hk : k0 ≤ x0.length) (h : RM w A n c vs xss) :
    Calls Tryz.prog 65 #[.slice A n c, .int .i64 (k0 : Int), .func (.func 66) #[] #[.pointer (some ⟨g, 0, none⟩)]] w fun e w' => e = .returned (.int .i64 (foldC x0 k0 xss : Nat)) ∧ ∃ j, w' = w.drewN j := by
  obtain ⟨r, hr⟩ : ∃ r, foldC x0 k0 xss = r := ⟨_, rfl⟩
  have HL := hideIt h.len
  have hmx : n ≤ 9223372036854775807 := by have h1 := RC.le h.rc; have h2 := RC.mx h.rc; rw [maxLen_is] at h2; omega
  rw [hr]
  go_enter Tryz.func65, Tryz.ntmps65
  go_wp2
  go_loopw [1, 11] (fun nn kk wr => ∃ (k : Nat) (i : Nat), i ≤ n ∧ k ≤ x0.length ∧ nn = .int .i64 (k : Int) ∧ kk = .int .i64 i ∧ Hid (foldC x0 k (xss.drop i) = r) ∧ ∃ j, wr = w.drewN j)
    (fun _ kk _ => n - (intOf kk).toNat)
  case atStart => exact ⟨k0, 0, by omega, hk, rfl, rfl, by unfold Hid; simpa using hr, 0, rfl⟩
  case round =>
    obtain ⟨k, i, hi, hk', rfl, rfl, H, j, hw⟩ := hrel
    have HW := hideIt hw
    by_cases hlt : i < n
    · obtain ⟨ad, Aj, nj, cj, xs, rfl, hxs, hcell, hrow⟩ := (h.drewN j).row i hlt
      rw [← HW.out] at hcell hrow
      have st := foldC_step x0 k i xss xs hxs
      rw [H.out] at st
      have H2 := hideIt st.symm
      have hcap := hc.below j HW.out
      clear hw st H
      have i0 : (i : Int) < (n : Int) := by omega
      go_wp2_with (go_at_call 66; refine (take_calls _ _ _ _ _ _ _ _ hcap hk' hrow).mono ?_; rintro e w1 ⟨rfl, j1, q⟩; have Q := hideIt q; clear q)
      go_roundw
      case rel => exact ⟨_, i + 1, by omega, by omega, rfl, by go_num, H2, j + j1, by rw [Q.out, HW.out, World.drewN_drewN]⟩
      case measure => simp [intOf]; omega
    · obtain rfl : i = n := by omega
      have e := foldC_end x0 k i xss (by rw [HL.out]; exact Nat.le_refl _)
      rw [H.out] at e
      have e' := hideIt e
      clear e H hw
      go_wp2
      go_ret
      exact ⟨by rw [e'.out]; rfl, j, HW.out⟩

theorem RM.tail {w : World} {ad : Addr} {n c : Nat} {vs : List Value} {x0 : List UInt8} {xss : List (List UInt8)} (h : RM w (some ad) n c vs (x0 :: xss)) (hn : 1 ≤ n) (hc : n ≤ c) (A' : Option Addr) (hA : ¬ c = 1 → A' = some (ad.add 1)) (hA2 : A' = none → c = 1) :
    RM w A' (n - 1) (c - 1) ((vs.drop 1).take (n - 1)) xss := by
  refine ⟨?_, ?_, ?_⟩
  · have := h.rc.cut (A' := A') 1 n c hn (Nat.le_refl _) hc (Nat.le_refl _) (by simpa using hA) (fun e => Or.inl (hA2 e))
    simpa using this
  · have := h.len; simp at this; omega
  · intro j xs hj
    obtain ⟨Aj, nj, cj, e, r⟩ := h.each (j + 1) xs (by simpa using hj)
    refine ⟨Aj, nj, cj, ?_, r⟩
    have hl := h.len
    have : j < xss.length := (List.getElem?_eq_some_iff.1 hj).1
    rw [List.getElem?_take, if_pos (by simp at hl; omega), List.getElem?_drop, Nat.add_comm]
    exact e

theorem quiet_drewN {P : Program} {f : FuncId} {args : Array Value} {w : World} {m : Nat} {v : Value} (h : Calls P f args (w.drewN m) fun e w' => e = .returned v ∧ ∃ j, w' = (w.drewN m).drewN j) :
    Calls P f args (w.drewN m) fun e w' => e = .returned v ∧ ∃ j, w' = w.drewN j :=
  h.mono fun _ _ ⟨a, j, b⟩ => ⟨a, m + j, by rw [b, World.drewN_drewN]⟩
set_option maxRecDepth 100000 in
set_option maxHeartbeats 2000000 in
theorem CommonAll_calls (A : Option Addr) (n c : Nat) (vs : List Value) (xss : List (List UInt8)) (w : World) (h : RM w A n c vs xss) :
    Calls Tryz.prog 14 #[.slice A n c] w fun e w' => e = .returned (.int .i64 (Key.comAll xss : Nat)) ∧ Below w.heap.size w w' := by
  have hmf : ∀ (fn : Fn) (first cap : Array Value) (w : World), (Instr.makeFunc fn first cap).run Tryz.prog w = .ok (.func fn first cap) w := fun _ _ _ _ => rfl
  rcases Nat.eq_zero_or_pos n with h0 | h0
  · have : xss = [] := List.eq_nil_of_length_eq_zero (by rw [h.len, h0])
    subst this
    subst h0
    go_enter Tryz.func14, Tryz.ntmps14
    go_wp2
    go_ret
    exact ⟨rfl, (Below.refl _ _).alloc (Nat.le_refl _) _⟩
  obtain ⟨ad, A0, n0, c0, x0, rfl, hx0, hc0, hr0⟩ := h.row 0 h0
  have hcc := RC.le h.rc
  cases xss with
  | nil => simp at hx0
  | cons x1 xss =>
  obtain rfl : x1 = x0 := by simpa using hx0
  have HL := hideIt hr0.len
  rw [Addr.add_zero'] at hc0
  have cA : (w.alloc (.cells #[Value.slice (some ad) n c] 25)).cell? ad = some (.slice A0 n0 c0) := by
    rw [World.cell?_alloc_lt (h := RC.block_lt h.rc rfl (by intro q; have := h.rc.len; rw [q] at this; simp at this; omega)), hc0]
  have bo := (Below.refl w.heap.size w).alloc (Nat.le_refl _) (.cells #[Value.slice (some ad) n c] 25)
  have cap0 : Cap (w.alloc (.cells #[Value.slice (some ad) n c] 25)) w.heap.size x1 := ⟨ad, n, c, A0, n0, c0, by simp, h0, cA, hr0.below bo⟩
  have cap := fun m => cap0.below m rfl
  have hA := fun m => (h.below bo).drewN m
  have le1 : n0 ≤ x1.length := by rw [HL.out]; exact Nat.le_refl _
  have law : Key.comAll (x1 :: xss) = foldC x1 n0 xss := by rw [← HL.out]; rfl
  rw [law]
  clear law cap0
  by_cases hc1 : c = 1
  · obtain rfl : n = 1 := by omega
    subst hc1
    have rm := fun m A' => (hA m).tail (A' := A') (by omega) (by omega) (fun e => absurd rfl e) (fun _ => rfl)
    clear hA
    go_enter Tryz.func14, Tryz.ntmps14
    go_wp2_with fail
    go_quiet (first | (go_at_call 65; exact quiet_drewN (fold_calls _ _ _ _ _ _ _ _ _ (cap _) le1 (rm _ _))))
    go_wp2
    go_ret
    exact ⟨rfl, below_drewN bo _⟩
  · have n1 : (1 : Int) ≤ (n : Int) := by omega
    have c1 : (1 : Int) ≤ (c : Int) := by omega
    have nc : (n : Int) ≤ (c : Int) := by omega
    have rm := fun m => (hA m).tail (A' := some (ad.add 1)) (by omega) hcc (fun _ => rfl) (fun e => by cases e)
    simp only [Addr.add_succ'] at rm
    clear hA
    go_enter Tryz.func14, Tryz.ntmps14
    go_wp2_with fail
    go_quiet (first | (go_at_call 65; exact quiet_drewN (fold_calls _ _ _ _ _ _ _ _ _ (cap _) le1 (rm _))))
    go_wp2
    go_ret
    exact ⟨rfl, below_drewN bo _⟩

end Go.Proofs.YtmeakhiiebeneaaGreatDoor
