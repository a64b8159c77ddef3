/- keys: Compare, Common, CommonAll, Valid (the program's alone). -/
import Derived.Test.YtieoleiokjoccaaRefA
import Derived.Test.YtieoleiokjoccaaKeyA
import Derived.Lib.BytesEntry
import Derived.Deep.QuietTactic
import Derived.BigQuiet
import Derived.BigRegion
import Derived.WalkLawsBesides
import Derived.Test.YtieoleiokjoccaaRM
import Derived.Lib.SliceRun
namespace Go.Proofs.Ytieoleiokjoccaa
open Go.RowKit

theorem bytes_of {P : Program} {w : World} {A : Option Addr} {n c : Nat} {xs : List UInt8} (h : RB w A n c xs) : (Extern.Bytes.bytesOf (.slice A n c)).run P w = .ok ⟨xs.toArray⟩ w := by
  cases A with
  | none =>
    have hn : n = 0 := by have := RC.non h rfl; have := RC.le h; omega
    have : xs = [] := List.eq_nil_of_length_eq_zero (by rw [h.len, hn])
    subst this
    rfl
  | some ad =>
    have hl := Lib.run_loadBytesX (P := P) w (xs.map fun x => (x.toNat : Int)) ad .empty (fun j x hj => by
      rw [List.getElem?_map] at hj
      cases hx : xs[j]? with
      | none => rw [hx] at hj; simp at hj
      | some u =>
        rw [hx] at hj
        simp at hj
        subst hj
        exact RC.cell h ad rfl j (.int .u8 (u.toNat : Int)) (by rw [u8s, List.getElem?_map, hx]; rfl))
    rw [List.length_map, h.len] at hl
    show (Extern.Bytes.loadBytes ad n .empty).run P w = _
    rw [hl]
    congr 2
    have : Lib.bytesOf (xs.map fun x => (x.toNat : Int)) = xs := by
      unfold Lib.bytesOf
      rw [List.map_map]
      conv => rhs; rw [← List.map_id xs]
      apply List.map_congr_left
      intro x _
      simp
    rw [this]
    simp [ByteArray.empty, ByteArray.emptyWithCapacity]
    rfl
theorem run_compare {P : Program} {w : World} {A A' : Option Addr} {n c n' c' : Nat} {xs ys : List UInt8} (h : RB w A n c xs) (h' : RB w A' n' c' ys) :
    (Extern.BytealgCompare.compare #[.slice A n c, .slice A' n' c']).run P w = .ok (.int .i64 (Key.cmpB xs ys)) w := by
  change Sem.run P (do pure (goInt (Extern.BytealgCompare.cmp (← Extern.Bytes.bytesOf (.slice A n c)) (← Extern.Bytes.bytesOf (.slice A' n' c'))))) w = _
  simp only [Sem.run_bind, bytes_of h, bytes_of h', Result.andThen, Sem.run_pure]
  rw [Lib.cmp_eq]
  rfl

set_option maxHeartbeats 400000 in
theorem bytesCompare_calls (A A' : Option Addr) (n c n' c' : Nat) (xs ys : List UInt8) (w : World) (h : RB w A n c xs) (h' : RB w A' n' c' ys) :
    Calls Try.prog 77 #[.slice A n c, .slice A' n' c'] w fun e w' => e = .returned (.int .i64 (Key.cmpB xs ys)) ∧ w = w' := by
  have hc := run_compare (P := Try.prog) h h'
  go_enter Try.func77, Try.ntmps77
  go_wp2
  rw [run_callFunc_extern Try.func79 (by kernel_rfl) (by kernel_rfl) (by kernel_rfl) (e := Extern.BytealgCompare.compare) (by kernel_rfl), hc]
  simp only [Result.andThen]
  rw [Oper.upon_value]
  go_wp2
  go_ret
  exact ⟨rfl, rfl⟩
set_option maxHeartbeats 400000 in
theorem Compare_calls (A A' : Option Addr) (n c n' c' : Nat) (xs ys : List UInt8) (w : World) (h : RB w A n c xs) (h' : RB w A' n' c' ys) :
    Calls Try.prog 69 #[.slice A n c, .slice A' n' c'] w fun e w' => e = .returned (.int .i64 (Key.cmpB xs ys)) ∧ w = w' := by
  go_enter Try.func69, Try.ntmps69
  go_wp2_with (go_at_call 77; refine (bytesCompare_calls _ _ _ _ _ _ _ _ _ h h').mono ?_; rintro e w1 ⟨rfl, rfl⟩)
  go_ret
  exact ⟨rfl, rfl⟩

theorem drewB {w : World} {A : Option Addr} {n c : Nat} {xs : List UInt8} (h : RB w A n c xs) (m : Nat) : RB (w.drewN m) A n c xs := h.below (below_drewN (Below.refl _ _) m)
theorem two_cells {w : World} {A A' : Option Addr} {n c n' c' : Nat} {xs ys : List UInt8} (h : RB w A n c xs) (h' : RB w A' n' c' ys) (k : Nat) (hk : k < xs.length) (hk' : k < ys.length) :
    ∃ ad ad', ∃ vx vy : Int, A = some ad ∧ A' = some ad' ∧ w.cell? (ad.add k) = some (.int .u8 vx) ∧ w.cell? (ad'.add k) = some (.int .u8 vy) ∧ (vx < vy ↔ xs[k] < ys[k]) ∧ (vy < vx ↔ ys[k] < xs[k]) ∧ (vx = vy ↔ xs[k] = ys[k]) := by
  obtain ⟨ad, e, ca⟩ := h.at_ k hk
  obtain ⟨ad', e', ca'⟩ := h'.at_ k hk'
  refine ⟨ad, ad', _, _, e, e', ca, ca', ?_, ?_, ?_⟩
  · rw [UInt8.lt_iff_toNat_lt]; omega
  · rw [UInt8.lt_iff_toNat_lt]; omega
  · rw [← UInt8.toNat_inj]; omega
theorem min_run2 (a b n : Nat) (h : min a b = n) (ts : Array TypeId) (t : TypeId) (w : World) : (Builtin.min_ ts t #[.int .i64 (a : Int), .int .i64 (b : Int)]).run Try.prog w = .ok (.int .i64 (n : Int)) w := by
  rw [run_min_int2]; split <;> (congr 2; omega)

set_option maxHeartbeats 1000000 in
theorem Common_calls (A A' : Option Addr) (n c n' c' : Nat) (xs ys : List UInt8) (w : World) (h : RB w A n c xs) (h' : RB w A' n' c' ys) (hb : n ≤ 9223372036854775807) (_hb' : n' ≤ 9223372036854775807) :
    Calls Try.prog 76 #[.slice A n c, .slice A' n' c'] w fun e w' => e = .returned (.int .i64 (Key.com xs ys : Nat)) ∧ ∃ j, w' = w.drewN j := by
  obtain ⟨r, hr⟩ : ∃ r, Key.com xs ys = r := ⟨_, rfl⟩
  obtain ⟨m, hm⟩ : ∃ m, min n n' = m := ⟨_, rfl⟩
  have hmin := min_run2 n n' m hm
  have HL := hideIt h.len
  have HL' := hideIt h'.len
  have HM := hideIt hm
  rw [hr]
  clear hm
  have hmn : m ≤ n := by rw [← HM.out]; exact Nat.min_le_left _ _
  have hmn' : m ≤ n' := by rw [← HM.out]; exact Nat.min_le_right _ _
  go_enter Try.func76, Try.ntmps76
  go_wp2
  go_loopw [13] (fun kk wr => ∃ (k : Nat), k ≤ m ∧ kk = .int .i64 k ∧ Hid (k + Key.com (xs.drop k) (ys.drop k) = r) ∧ ∃ j, wr = w.drewN j)
    (fun kk _ => m - (intOf kk).toNat)
  case atStart => exact ⟨0, by omega, rfl, by unfold Hid; simpa using hr, 0, rfl⟩
  case round =>
    obtain ⟨k, hk, rfl, H, j, rfl⟩ := hrel
    by_cases hlt : k < m
    · have kx : k < xs.length := by rw [HL.out]; omega
      have ky : k < ys.length := by rw [HL'.out]; omega
      obtain ⟨ad, ad', vx, vy, rfl, rfl, ca, ca', -, -, he⟩ := two_cells h h' k kx ky
      have st := Key.com_step xs ys k kx ky
      rw [H.out] at st
      have HS := hideIt st
      clear st H
      have k0 : (k : Int) < (n : Int) := by omega
      have k1 : (k : Int) < (n' : Int) := by omega
      by_cases e : vx = vy
      · have H2 := HS.out
        rw [if_pos (he.1 e)] at H2
        have H3 := hideIt H2.symm
        clear H2 HS he
        go_wp2
        go_quiet (fail)
        go_wp2
        go_roundw
        case rel => exact ⟨k + 1, by omega, by go_num, H3, _, rfl⟩
        case measure => simp [intOf]; omega
      · have H2 := HS.out
        rw [if_neg (fun q => e (he.2 q))] at H2
        clear HS he
        subst H2
        go_wp2
        go_quiet (fail)
        go_wp2
        go_ret
        first | exact ⟨rfl, _, rfl⟩ | exact ⟨rfl, _, World.drewN_drewN ..⟩ | exact ⟨rfl, _, by rw [World.drewN_drewN, World.drewN_drewN]⟩
    · obtain rfl : k = m := by omega
      have e := Key.com_end xs ys k (by rw [HL.out, HL'.out, ← HM.out]; omega)
      rw [H.out] at e
      obtain rfl : k = r := e.symm
      go_wp2
      go_ret
      exact ⟨rfl, _, rfl⟩

/-- What the closure has captured: a cell with the list, its first row. -/
structure Cap (w : World) (g : Nat) (x0 : List UInt8) : Prop where
  cell : ∃ (ad : Addr) (n c : Nat) (A0 : Option Addr) (n0 c0 : Nat), w.cell? ⟨g, 0, none⟩ = some (.slice (some ad) n c) ∧ 0 < n ∧ w.cell? ad = some (.slice A0 n0 c0) ∧ RB w A0 n0 c0 x0

set_option maxHeartbeats 1000000 in
theorem ktake_calls (g : Nat) (x0 : List UInt8) (k : Nat) (A : Option Addr) (n c : Nat) (xs : List UInt8) (w : World) (hc : Cap w g x0) (hk : k ≤ x0.length) (h : RB w A n c xs) :
    Calls Try.prog 75 #[.int .i64 (k : Int), .slice A n c, .pointer (some ⟨g, 0, none⟩)] w fun e w' => e = .returned (.int .i64 (min k (Key.com x0 xs) : Nat)) ∧ ∃ j, w' = w.drewN j := by
  obtain ⟨ad, L, C, A0, n0, c0, hcell, hL, hrow, hr⟩ := hc
  obtain ⟨r, hr0⟩ : ∃ r, min k (Key.com x0 xs) = r := ⟨_, rfl⟩
  have e := Key.com_take x0 xs k hk
  rw [hr0] at e ⊢
  have HE := hideIt e
  clear e
  have HL := hideIt hr.len
  have hk0 : k ≤ n0 := by rw [← HL.out]; exact hk
  have hc0 : k ≤ c0 := Nat.le_trans hk0 (RC.le hr)
  have ht := hr.take k hk0
  have mk := hr.max
  have mn := h.max
  have l0 : (0 : Int) < (L : Int) := by omega
  go_enter Try.func75, Try.ntmps75
  go_wp2_with (go_at_call 76; refine (Common_calls _ _ _ _ _ _ _ _ _ ht h (by omega) (by omega)).mono ?_; rintro e w1 ⟨rfl, j, q⟩; have Q := hideIt q; clear q; rw [HE.out])
  go_ret
  exact ⟨rfl, j, Q.out⟩

theorem Cap.below {w w' : World} {g : Nat} {x0 : List UInt8} (h : Cap w g x0) (m : Nat) (e : w' = w.drewN m) : Cap w' g x0 := by
  obtain ⟨ad, L, C, A0, n0, c0, hcell, hL, hrow, hr⟩ := h
  subst e
  exact ⟨ad, L, C, A0, n0, c0, hcell, hL, hrow, drewB hr m⟩
theorem RM.drewN {w : World} {A : Option Addr} {n c : Nat} {vs : List Value} {xss : List (List UInt8)} (h : RM w A n c vs xss) (m : Nat) : RM (w.drewN m) A n c vs xss := h.below (below_drewN (Below.refl _ _) m)
def foldC (x0 : List UInt8) (k : Nat) (xss : List (List UInt8)) : Nat := xss.foldl (fun n s => min n (Key.com x0 s)) k
theorem foldC_step (x0 : List UInt8) (k i : Nat) (xss : List (List UInt8)) (x : List UInt8) (h : xss[i]? = some x) : foldC x0 k (xss.drop i) = foldC x0 (min k (Key.com x0 x)) (xss.drop (i + 1)) := by
  obtain ⟨hi, e⟩ := List.getElem?_eq_some_iff.1 h
  rw [List.drop_eq_getElem_cons hi, e]; rfl
theorem foldC_end (x0 : List UInt8) (k i : Nat) (xss : List (List UInt8)) (h : xss.length ≤ i) : foldC x0 k (xss.drop i) = k := by
  rw [List.drop_of_length_le h]; rfl

set_option maxHeartbeats 1000000 in
theorem fold_calls (g : Nat) (x0 : List UInt8) (k0 : Nat) (A : Option Addr) (n c : Nat) (vs : List Value) (xss : List (List UInt8)) (w : World) (hc : Cap w g x0) (hk : k0 ≤ x0.length) (h : RM w A n c vs xss) :
    Calls Try.prog 74 #[.slice A n c, .int .i64 (k0 : Int), .func (.func 75) #[] #[.pointer (some ⟨g, 0, none⟩)]] w fun e w' => e = .returned (.int .i64 (foldC x0 k0 xss : Nat)) ∧ ∃ j, w' = w.drewN j := by
  obtain ⟨r, hr⟩ : ∃ r, foldC x0 k0 xss = r := ⟨_, rfl⟩
  have HL := hideIt h.len
  have hmx : n ≤ 9223372036854775807 := by have h1 := RC.le h.rc; have h2 := RC.mx h.rc; rw [maxLen_is] at h2; omega
  rw [hr]
  go_enter Try.func74, Try.ntmps74
  go_wp2
  go_loopw [1, 11] (fun nn kk wr => ∃ (k : Nat) (i : Nat), i ≤ n ∧ k ≤ x0.length ∧ nn = .int .i64 (k : Int) ∧ kk = .int .i64 i ∧ Hid (foldC x0 k (xss.drop i) = r) ∧ ∃ j, wr = w.drewN j)
    (fun _ kk _ => n - (intOf kk).toNat)
  case atStart => exact ⟨k0, 0, by omega, hk, rfl, rfl, by unfold Hid; simpa using hr, 0, rfl⟩
  case round =>
    obtain ⟨k, i, hi, hk', rfl, rfl, H, j, hw⟩ := hrel
    have HW := hideIt hw
    by_cases hlt : i < n
    · obtain ⟨ad, Aj, nj, cj, xs, rfl, hxs, hcell, hrow⟩ := (h.drewN j).row i hlt
      rw [← HW.out] at hcell hrow
      have st := foldC_step x0 k i xss xs hxs
      rw [H.out] at st
      have H2 := hideIt st.symm
      have hcap := hc.below j HW.out
      clear hw st H
      have i0 : (i : Int) < (n : Int) := by omega
      go_wp2_with (go_at_call 75; refine (ktake_calls _ _ _ _ _ _ _ _ hcap hk' hrow).mono ?_; rintro e w1 ⟨rfl, j1, q⟩; have Q := hideIt q; clear q)
      go_roundw
      case rel => exact ⟨_, i + 1, by omega, by omega, rfl, by go_num, H2, j + j1, by rw [Q.out, HW.out, World.drewN_drewN]⟩
      case measure => simp [intOf]; omega
    · obtain rfl : i = n := by omega
      have e := foldC_end x0 k i xss (by rw [HL.out]; exact Nat.le_refl _)
      rw [H.out] at e
      have e' := hideIt e
      clear e H hw
      go_wp2
      go_ret
      exact ⟨by rw [e'.out]; rfl, j, HW.out⟩

theorem RM.tail {w : World} {ad : Addr} {n c : Nat} {vs : List Value} {x0 : List UInt8} {xss : List (List UInt8)} (h : RM w (some ad) n c vs (x0 :: xss)) (hn : 1 ≤ n) (hc : n ≤ c) (A' : Option Addr) (hA : ¬ c = 1 → A' = some (ad.add 1)) (hA2 : A' = none → c = 1) :
    RM w A' (n - 1) (c - 1) ((vs.drop 1).take (n - 1)) xss := by
  refine ⟨?_, ?_, ?_⟩
  · have := h.rc.cut (A' := A') 1 n c hn (Nat.le_refl _) hc (Nat.le_refl _) (by simpa using hA) (fun e => Or.inl (hA2 e))
    simpa using this
  · have := h.len; simp at this; omega
  · intro j xs hj
    obtain ⟨Aj, nj, cj, e, r⟩ := h.each (j + 1) xs (by simpa using hj)
    refine ⟨Aj, nj, cj, ?_, r⟩
    have hl := h.len
    have : j < xss.length := (List.getElem?_eq_some_iff.1 hj).1
    rw [List.getElem?_take, if_pos (by simp at hl; omega), List.getElem?_drop, Nat.add_comm]
    exact e

theorem quiet_drewN {P : Program} {f : FuncId} {args : Array Value} {w : World} {m : Nat} {v : Value} (h : Calls P f args (w.drewN m) fun e w' => e = .returned v ∧ ∃ j, w' = (w.drewN m).drewN j) :
    Calls P f args (w.drewN m) fun e w' => e = .returned v ∧ ∃ j, w' = w.drewN j :=
  h.mono fun _ _ ⟨a, j, b⟩ => ⟨a, m + j, by rw [b, World.drewN_drewN]⟩
set_option maxHeartbeats 2000000 in
theorem CommonAll_calls (A : Option Addr) (n c : Nat) (vs : List Value) (xss : List (List UInt8)) (w : World) (h : RM w A n c vs xss) :
    Calls Try.prog 58 #[.slice A n c] w fun e w' => e = .returned (.int .i64 (Key.comAll xss : Nat)) ∧ Below w.heap.size w w' := by
  have hmf : ∀ (fn : Fn) (first cap : Array Value) (w : World), (Instr.makeFunc fn first cap).run Try.prog w = .ok (.func fn first cap) w := fun _ _ _ _ => rfl
  rcases Nat.eq_zero_or_pos n with h0 | h0
  · have : xss = [] := List.eq_nil_of_length_eq_zero (by rw [h.len, h0])
    subst this
    subst h0
    go_enter Try.func58, Try.ntmps58
    go_wp2
    go_ret
    exact ⟨rfl, (Below.refl _ _).alloc (Nat.le_refl _) _⟩
  obtain ⟨ad, A0, n0, c0, x0, rfl, hx0, hc0, hr0⟩ := h.row 0 h0
  have hcc := RC.le h.rc
  cases xss with
  | nil => simp at hx0
  | cons x1 xss =>
  obtain rfl : x1 = x0 := by simpa using hx0
  have HL := hideIt hr0.len
  rw [Addr.add_zero'] at hc0
  have cA : (w.alloc (.cells #[Value.slice (some ad) n c] 85)).cell? ad = some (.slice A0 n0 c0) := by
    rw [World.cell?_alloc_lt (h := RC.block_lt h.rc rfl (by intro q; have := h.rc.len; rw [q] at this; simp at this; omega)), hc0]
  have bo := (Below.refl w.heap.size w).alloc (Nat.le_refl _) (.cells #[Value.slice (some ad) n c] 85)
  have cap0 : Cap (w.alloc (.cells #[Value.slice (some ad) n c] 85)) w.heap.size x1 := ⟨ad, n, c, A0, n0, c0, by simp, h0, cA, hr0.below bo⟩
  have cap := fun m => cap0.below m rfl
  have hA := fun m => (h.below bo).drewN m
  have le1 : n0 ≤ x1.length := by rw [HL.out]; exact Nat.le_refl _
  have law : Key.comAll (x1 :: xss) = foldC x1 n0 xss := by rw [← HL.out]; rfl
  rw [law]
  clear law cap0
  by_cases hc1 : c = 1
  · obtain rfl : n = 1 := by omega
    subst hc1
    have rm := fun m A' => (hA m).tail (A' := A') (by omega) (by omega) (fun e => absurd rfl e) (fun _ => rfl)
    clear hA
    go_enter Try.func58, Try.ntmps58
    go_wp2_with fail
    go_quiet (first | (go_at_call 74; exact quiet_drewN (fold_calls _ _ _ _ _ _ _ _ _ (cap _) le1 (rm _ _))))
    go_wp2
    go_ret
    exact ⟨rfl, below_drewN bo _⟩
  · have n1 : (1 : Int) ≤ (n : Int) := by omega
    have c1 : (1 : Int) ≤ (c : Int) := by omega
    have nc : (n : Int) ≤ (c : Int) := by omega
    have rm := fun m => (hA m).tail (A' := some (ad.add 1)) (by omega) hcc (fun _ => rfl) (fun e => by cases e)
    simp only [Addr.add_succ'] at rm
    clear hA
    go_enter Try.func58, Try.ntmps58
    go_wp2_with fail
    go_quiet (first | (go_at_call 74; exact quiet_drewN (fold_calls _ _ _ _ _ _ _ _ _ (cap _) le1 (rm _))))
    go_wp2
    go_ret
    exact ⟨rfl, below_drewN bo _⟩

set_option maxHeartbeats 400000 in
theorem Valid_calls (A : Option Addr) (n c : Nat) (w : World) (v : Bool) (hv : v = decide (1 ≤ n ∧ n ≤ 255)) :
    Calls Try.prog 68 #[.slice A n c] w fun e w' => e = .returned (.bool v) ∧ w = w' := by
  by_cases h1 : 1 ≤ n
  · by_cases h2 : n ≤ 255
    · rw [decide_eq_true ⟨h1, h2⟩] at hv
      subst hv
      have k1 : (1 : Int) ≤ (n : Int) := by omega
      have k2 : (n : Int) ≤ (255 : Int) := by omega
      go_enter Try.func68, Try.ntmps68
      go_wp2
      go_ret
      exact ⟨by simp, rfl⟩
    · rw [decide_eq_false (fun q => h2 q.2)] at hv
      subst hv
      have k1 : (1 : Int) ≤ (n : Int) := by omega
      have k2 : ¬ (n : Int) ≤ (255 : Int) := by omega
      go_enter Try.func68, Try.ntmps68
      go_wp2
      go_ret
      exact ⟨by first | (simp; done) | (simp; omega), rfl⟩
  · rw [decide_eq_false (fun q => h1 q.1)] at hv
    subst hv
    have k1 : ¬ (1 : Int) ≤ (n : Int) := by omega
    go_enter Try.func68, Try.ntmps68
    go_wp2
    go_ret
    exact ⟨rfl, rfl⟩
end Go.Proofs.Ytieoleiokjoccaa
