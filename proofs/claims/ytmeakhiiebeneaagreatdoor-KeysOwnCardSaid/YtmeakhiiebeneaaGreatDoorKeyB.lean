/- Walks of the chapter of keys: Compare, Common, and the document's own. -/
import Derived.Test.YtmeakhiiebeneaaGreatDoorRefA
import Derived.Test.YtmeakhiiebeneaaGreatDoorKeyA
import Derived.Lib.BytesEntry
import Derived.Deep.QuietTactic
import Derived.BigQuiet
import Derived.BigRegion
import Derived.WalkLawsBesides
namespace Go.Proofs.YtmeakhiiebeneaaGreatDoor
open Go.RowKit

theorem bytes_of {P : Program} {w : World} {A : Option Addr} {n c : Nat} {xs : List UInt8} (h : RB w A n c xs) : (Extern.Bytes.bytesOf (.slice A n c)).run P w = .ok ⟨xs.toArray⟩ w := by
  cases A with
  | none =>
    have hn : n = 0 := by have := RC.non h rfl; have := RC.le h; omega
    have : xs = [] := List.eq_nil_of_length_eq_zero (by rw [h.len, hn])
    subst this
    rfl
  | some ad =>
    have hl := Lib.run_loadBytesX (P := P) w (xs.map fun x => (x.toNat : Int)) ad .empty (fun j x hj => by
      rw [List.getElem?_map] at hj
      cases hx : xs[j]? with
      | none => rw [hx] at hj; simp at hj
      | some u =>
        rw [hx] at hj
        simp at hj
        subst hj
        exact RC.cell h ad rfl j (.int .u8 (u.toNat : Int)) (by rw [u8s, List.getElem?_map, hx]; rfl))
    rw [List.length_map, h.len] at hl
    show (Extern.Bytes.loadBytes ad n .empty).run P w = _
    rw [hl]
    congr 2
    have : Lib.bytesOf (xs.map fun x => (x.toNat : Int)) = xs := by
      unfold Lib.bytesOf
      rw [List.map_map]
      conv => rhs; rw [← List.map_id xs]
      apply List.map_congr_left
      intro x _
      simp
    rw [this]
    simp [ByteArray.empty, ByteArray.emptyWithCapacity]
    rfl
theorem run_compare {P : Program} {w : World} {A A' : Option Addr} {n c n' c' : Nat} {xs ys : List UInt8} (h : RB w A n c xs) (h' : RB w A' n' c' ys) :
    (Extern.BytealgCompare.compare #[.slice A n c, .slice A' n' c']).run P w = .ok (.int .i64 (Key.cmpB xs ys)) w := by
  change Sem.run P (do pure (goInt (Extern.BytealgCompare.cmp (← Extern.Bytes.bytesOf (.slice A n c)) (← Extern.Bytes.bytesOf (.slice A' n' c'))))) w = _
  simp only [Sem.run_bind, bytes_of h, bytes_of h', Result.andThen, Sem.run_pure]
  rw [Lib.cmp_eq]
  rfl

set_option maxRecDepth 100000 in
set_option maxHeartbeats 400000 in
theorem bytesCompare_calls (A A' : Option Addr) (n c n' c' : Nat) (xs ys : List UInt8) (w : World) (h : RB w A n c xs) (h' : RB w A' n' c' ys) :
    Calls Tryz.prog 64 #[.slice A n c, .slice A' n' c'] w fun e w' => e = .returned (.int .i64 (Key.cmpB xs ys)) ∧ w = w' := by
  have hc := run_compare (P := Tryz.prog) h h'
  go_enter Tryz.func64, Tryz.ntmps64
  go_wp2
  rw [run_callFunc_extern Tryz.func115 (by kernel_rfl) (by kernel_rfl) (by kernel_rfl) (e := Extern.BytealgCompare.compare) (by kernel_rfl), hc]
  simp only [Result.andThen]
  rw [Oper.upon_value]
  go_wp2
  go_ret
  exact ⟨rfl, rfl⟩
set_option maxRecDepth 100000 in
set_option maxHeartbeats 400000 in
theorem Compare_calls (A A' : Option Addr) (n c n' c' : Nat) (xs ys : List UInt8) (w : World) (h : RB w A n c xs) (h' : RB w A' n' c' ys) :
    Calls Tryz.prog 13 #[.slice A n c, .slice A' n' c'] w fun e w' => e = .returned (.int .i64 (Key.cmpB xs ys)) ∧ w = w' := by
  go_enter Tryz.func13, Tryz.ntmps13
  go_wp2_with (go_at_call 64; refine (bytesCompare_calls _ _ _ _ _ _ _ _ _ h h').mono ?_; rintro e w1 ⟨rfl, rfl⟩)
  go_ret
  exact ⟨rfl, rfl⟩

theorem drewB {w : World} {A : Option Addr} {n c : Nat} {xs : List UInt8} (h : RB w A n c xs) (m : Nat) : RB (w.drewN m) A n c xs := h.below (below_drewN (Below.refl _ _) m)
theorem two_cells {w : World} {A A' : Option Addr} {n c n' c' : Nat} {xs ys : List UInt8} (h : RB w A n c xs) (h' : RB w A' n' c' ys) (k : Nat) (hk : k < xs.length) (hk' : k < ys.length) :
    ∃ ad ad', ∃ vx vy : Int, A = some ad ∧ A' = some ad' ∧ w.cell? (ad.add k) = some (.int .u8 vx) ∧ w.cell? (ad'.add k) = some (.int .u8 vy) ∧ (vx < vy ↔ xs[k] < ys[k]) ∧ (vy < vx ↔ ys[k] < xs[k]) ∧ (vx = vy ↔ xs[k] = ys[k]) := by
  obtain ⟨ad, e, ca⟩ := h.at_ k hk
  obtain ⟨ad', e', ca'⟩ := h'.at_ k hk'
  refine ⟨ad, ad', _, _, e, e', ca, ca', ?_, ?_, ?_⟩
  · rw [UInt8.lt_iff_toNat_lt]; omega
  · rw [UInt8.lt_iff_toNat_lt]; omega
  · rw [← UInt8.toNat_inj]; omega
theorem min_run2 (a b n : Nat) (h : min a b = n) (ts : Array TypeId) (t : TypeId) (w : World) : (Builtin.min_ ts t #[.int .i64 (a : Int), .int .i64 (b : Int)]).run Tryz.prog w = .ok (.int .i64 (n : Int)) w := by
  rw [run_min_int2]; split <;> (congr 2; omega)

set_option maxRecDepth 100000 in
set_option maxHeartbeats 1000000 in
theorem Common_calls (A A' : Option Addr) (n c n' c' : Nat) (xs ys : List UInt8) (w : World) (h : RB w A n c xs) (h' : RB w A' n' c' ys) (hb : n ≤ 9223372036854775807) (_hb' : n' ≤ 9223372036854775807) :
    Calls Tryz.prog 15 #[.slice A n c, .slice A' n' c'] w fun e w' => e = .returned (.int .i64 (Key.com xs ys : Nat)) ∧ ∃ j, w' = w.drewN j := by
  obtain ⟨r, hr⟩ : ∃ r, Key.com xs ys = r := ⟨_, rfl⟩
  obtain ⟨m, hm⟩ : ∃ m, min n n' = m := ⟨_, rfl⟩
  have hmin := min_run2 n n' m hm
  have HL := hideIt h.len
  have HL' := hideIt h'.len
  have HM := hideIt hm
  rw [hr]
  clear hm
  have hmn : m ≤ n := by rw [← HM.out]; exact Nat.min_le_left _ _
  have hmn' : m ≤ n' := by rw [← HM.out]; exact Nat.min_le_right _ _
  go_enter Tryz.func15, Tryz.ntmps15
  go_wp2
  go_loopw [13] (fun kk wr => ∃ (k : Nat), k ≤ m ∧ kk = .int .i64 k ∧ Hid (k + Key.com (xs.drop k) (ys.drop k) = r) ∧ ∃ j, wr = w.drewN j)
    (fun kk _ => m - (intOf kk).toNat)
  case atStart => exact ⟨0, by omega, rfl, by unfold Hid; simpa using hr, 0, rfl⟩
  case round =>
    obtain ⟨k, hk, rfl, H, j, rfl⟩ := hrel
    by_cases hlt : k < m
    · have kx : k < xs.length := by rw [HL.out]; omega
      have ky : k < ys.length := by rw [HL'.out]; omega
      obtain ⟨ad, ad', vx, vy, rfl, rfl, ca, ca', -, -, he⟩ := two_cells h h' k kx ky
      have st := Key.com_step xs ys k kx ky
      rw [H.out] at st
      have HS := hideIt st
      clear st H
      have k0 : (k : Int) < (n : Int) := by omega
      have k1 : (k : Int) < (n' : Int) := by omega
      by_cases e : vx = vy
      · have H2 := HS.out
        rw [if_pos (he.1 e)] at H2
        have H3 := hideIt H2.symm
        clear H2 HS he
        go_wp2
        go_quiet (fail)
        go_wp2
        go_roundw
        case rel => exact ⟨k + 1, by omega, by go_num, H3, _, rfl⟩
        case measure => simp [intOf]; omega
      · have H2 := HS.out
        rw [if_neg (fun q => e (he.2 q))] at H2
        clear HS he
        subst H2
        go_wp2
        go_quiet (fail)
        go_wp2
        go_ret
        first | exact ⟨rfl, _, rfl⟩ | exact ⟨rfl, _, World.drewN_drewN ..⟩ | exact ⟨rfl, _, by rw [World.drewN_drewN, World.drewN_drewN]⟩
    · obtain rfl : k = m := by omega
      have e := Key.com_end xs ys k (by rw [HL.out, HL'.out, ← HM.out]; omega)
      rw [H.out] at e
      obtain rfl : k = r := e.symm
      go_wp2
      go_ret
      exact ⟨rfl, _, rfl⟩

set_option maxRecDepth 100000 in
set_option maxHeartbeats 1000000 in
theorem refCommon_calls (A A' : Option Addr) (n c n' c' : Nat) (xs ys : List UInt8) (w : World) (h : RB w A n c xs) (h' : RB w A' n' c' ys) (hb : n ≤ 9223372036854775807) (_hb' : n' ≤ 9223372036854775807) :
    Calls Tryz.prog 18 #[.slice A n c, .slice A' n' c'] w fun e w' => e = .returned (.int .i64 (Key.com xs ys : Nat)) ∧ ∃ j, w' = w.drewN j := by
  obtain ⟨r, hr⟩ : ∃ r, Key.com xs ys = r := ⟨_, rfl⟩
  obtain ⟨m, hm⟩ : ∃ m, min n n' = m := ⟨_, rfl⟩
  have HL := hideIt h.len
  have HL' := hideIt h'.len
  have HM := hideIt hm
  rw [hr]
  clear hm
  have hmn : m ≤ n := by rw [← HM.out]; exact Nat.min_le_left _ _
  have hmn' : m ≤ n' := by rw [← HM.out]; exact Nat.min_le_right _ _
  go_enter Tryz.func18, Tryz.ntmps18
  go_wp2
  go_loopw [5] (fun kk wr => ∃ (k : Nat), k ≤ m ∧ kk = .int .i64 k ∧ Hid (k + Key.com (xs.drop k) (ys.drop k) = r) ∧ ∃ j, wr = w.drewN j)
    (fun kk _ => m - (intOf kk).toNat)
  case atStart => exact ⟨0, by omega, rfl, by unfold Hid; simpa using hr, 0, rfl⟩
  case round =>
    obtain ⟨k, hk, rfl, H, j, rfl⟩ := hrel
    by_cases hlt : k < m
    · have kx : k < xs.length := by rw [HL.out]; omega
      have ky : k < ys.length := by rw [HL'.out]; omega
      obtain ⟨ad, ad', vx, vy, rfl, rfl, ca, ca', -, -, he⟩ := two_cells h h' k kx ky
      have st := Key.com_step xs ys k kx ky
      rw [H.out] at st
      have HS := hideIt st
      clear st H
      have k0 : (k : Int) < (n : Int) := by omega
      have k1 : (k : Int) < (n' : Int) := by omega
      by_cases e : vx = vy
      · have H2 := HS.out
        rw [if_pos (he.1 e)] at H2
        have H3 := hideIt H2.symm
        clear H2 HS he
        go_wp2
        go_quiet (fail)
        go_wp2
        go_roundw
        case rel => exact ⟨k + 1, by omega, by go_num, H3, _, rfl⟩
        case measure => simp [intOf]; omega
      · have H2 := HS.out
        rw [if_neg (fun q => e (he.2 q))] at H2
        clear HS he
        subst H2
        go_wp2
        go_quiet (fail)
        go_wp2
        go_ret
        first | exact ⟨rfl, _, rfl⟩ | exact ⟨rfl, _, World.drewN_drewN ..⟩ | exact ⟨rfl, _, by rw [World.drewN_drewN, World.drewN_drewN]⟩
    · obtain rfl : k = m := by omega
      have e := Key.com_end xs ys k (by rw [HL.out, HL'.out, ← HM.out]; omega)
      rw [H.out] at e
      obtain rfl : k = r := e.symm
      by_cases hn : k < n
      · have k0 : (k : Int) < (n : Int) := by omega
        have hkn : n' = k := by have := HM.out; omega
        clear HM
        subst hkn
        go_wp2
        have k1 : decide ((n' : Int) < (n' : Int)) = false := decide_eq_false (by omega)
        go_quiet (fail)
        go_wp2
        go_ret
        first | exact ⟨rfl, _, rfl⟩ | exact ⟨rfl, _, World.drewN_drewN ..⟩ | exact ⟨rfl, _, by rw [World.drewN_drewN, World.drewN_drewN]⟩
      · have k0' : ¬ ((k : Int) < (n : Int)) := by omega
        go_wp2
        have k0 : decide ((k : Int) < (n : Int)) = false := decide_eq_false (by omega)
        go_quiet (fail)
        go_wp2
        go_ret
        first | exact ⟨rfl, _, rfl⟩ | exact ⟨rfl, _, World.drewN_drewN ..⟩ | exact ⟨rfl, _, by rw [World.drewN_drewN, World.drewN_drewN]⟩

set_option maxRecDepth 100000 in
set_option maxHeartbeats 2000000 in
theorem refCompare_calls (A A' : Option Addr) (n c n' c' : Nat) (xs ys : List UInt8) (w : World) (h : RB w A n c xs) (h' : RB w A' n' c' ys) (hb : n ≤ 9223372036854775807) (hb' : n' ≤ 9223372036854775807) :
    Calls Tryz.prog 17 #[.slice A n c, .slice A' n' c'] w fun e w' => e = .returned (.int .i64 (Key.cmpB xs ys)) ∧ ∃ j, w' = w.drewN j := by
  obtain ⟨r, hr⟩ : ∃ r, Key.cmpB xs ys = r := ⟨_, rfl⟩
  have HL := hideIt h.len
  have HL' := hideIt h'.len
  rw [hr]
  go_enter Tryz.func17, Tryz.ntmps17
  go_wp2
  go_loopw [5] (fun kk wr => ∃ (k : Nat), k ≤ n ∧ k ≤ n' ∧ kk = .int .i64 k ∧ Hid (Key.cmpB (xs.drop k) (ys.drop k) = r) ∧ ∃ j, wr = w.drewN j)
    (fun kk _ => n - (intOf kk).toNat)
  case atStart => exact ⟨0, by omega, by omega, rfl, by unfold Hid; simpa using hr, 0, rfl⟩
  case round =>
    obtain ⟨k, hk, hk', rfl, H, j, rfl⟩ := hrel
    by_cases hlt : k < n ∧ k < n'
    · have kx : k < xs.length := by rw [HL.out]; exact hlt.1
      have ky : k < ys.length := by rw [HL'.out]; exact hlt.2
      obtain ⟨ad, ad', vx, vy, rfl, rfl, ca, ca', hl, hg, he⟩ := two_cells h h' k kx ky
      have st := Key.cmpB_step xs ys k kx ky
      rw [H.out] at st
      have HS := hideIt st
      clear st H
      have k0 : (k : Int) < (n : Int) := by omega
      have k1 : (k : Int) < (n' : Int) := by omega
      by_cases e1 : vx < vy
      · have H2 := HS.out
        rw [if_pos (hl.1 e1)] at H2
        clear HS hl hg he
        subst H2
        go_wp2
        go_quiet (fail)
        go_wp2
        go_ret
        first | exact ⟨rfl, _, rfl⟩ | exact ⟨rfl, _, World.drewN_drewN ..⟩ | exact ⟨rfl, _, by rw [World.drewN_drewN, World.drewN_drewN]⟩
      · by_cases e2 : vy < vx
        · have H2 := HS.out
          rw [if_neg (fun q => e1 (hl.2 q)), if_pos (hg.1 e2)] at H2
          clear HS hl hg he
          subst H2
          go_wp2
          go_quiet (fail)
          go_wp2
          go_quiet (fail)
          go_wp2
          go_ret
          first | exact ⟨rfl, _, rfl⟩ | exact ⟨rfl, _, World.drewN_drewN ..⟩ | exact ⟨rfl, _, by rw [World.drewN_drewN, World.drewN_drewN]⟩
        · have H2 := HS.out
          rw [if_neg (fun q => e1 (hl.2 q)), if_neg (fun q => e2 (hg.2 q))] at H2
          have H3 := hideIt H2.symm
          clear HS hl hg he H2
          go_wp2
          go_quiet (fail)
          go_wp2
          go_quiet (fail)
          go_wp2
          go_roundw
          case rel => exact ⟨k + 1, by omega, by omega, by go_num, H3, _, rfl⟩
          case measure => simp [intOf]; omega
    · have e := Key.cmpB_end xs ys k (by rw [HL.out, HL'.out]; omega) (by rw [HL.out]; exact hk) (by rw [HL'.out]; exact hk')
      rw [H.out, HL.out, HL'.out] at e
      have HE := hideIt e
      clear e H
      by_cases q : n < n'
      · have H2 := HE.out
        rw [if_pos q] at H2
        clear HE
        subst H2
        obtain rfl : k = n := by omega
        go_wp2
        go_ret
        first | exact ⟨rfl, _, rfl⟩ | exact ⟨rfl, _, World.drewN_drewN ..⟩ | exact ⟨rfl, _, by rw [World.drewN_drewN, World.drewN_drewN]⟩
      · by_cases q2 : n' < n
        · have H2 := HE.out
          rw [if_neg q, if_pos q2] at H2
          clear HE
          subst H2
          obtain rfl : k = n' := by omega
          go_wp2
          go_ret
          first | exact ⟨rfl, _, rfl⟩ | exact ⟨rfl, _, World.drewN_drewN ..⟩ | exact ⟨rfl, _, by rw [World.drewN_drewN, World.drewN_drewN]⟩
        · have H2 := HE.out
          rw [if_neg q, if_neg q2] at H2
          clear HE
          subst H2
          obtain rfl : n = n' := by omega
          obtain rfl : k = n := by omega
          go_wp2
          go_ret
          first | exact ⟨rfl, _, rfl⟩ | exact ⟨rfl, _, World.drewN_drewN ..⟩ | exact ⟨rfl, _, by rw [World.drewN_drewN, World.drewN_drewN]⟩
end Go.Proofs.YtmeakhiiebeneaaGreatDoor
