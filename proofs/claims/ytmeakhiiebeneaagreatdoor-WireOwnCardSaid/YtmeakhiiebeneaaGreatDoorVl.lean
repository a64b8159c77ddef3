/- coppicelaw1's wide, get and put; what a broken reader answers. -/
import Derived.Test.YtmeakhiiebeneaaGreatDoorVb
import Derived.Test.YtmeakhiiebeneaaGreatDoorWp8
import Derived.Test.YtmeakhiiebeneaaGreatDoorWp16
import Derived.Test.YtmeakhiiebeneaaGreatDoorWp32
import Derived.Test.YtmeakhiiebeneaaGreatDoorWp64
import Derived.Test.YtmeakhiiebeneaaGreatDoorLit
namespace Go.Proofs.YtmeakhiiebeneaaGreatDoor
open Go.RowKit

def wideS (n : Int) : Nat := if n % 5 = 4 then 0 else 2 ^ (n % 5).toNat
theorem wide_five (n : Int) : wideS n = 0 ∨ wideS n = 1 ∨ wideS n = 2 ∨ wideS n = 4 ∨ wideS n = 8 := by
  unfold wideS
  have h : n % 5 = 0 ∨ n % 5 = 1 ∨ n % 5 = 2 ∨ n % 5 = 3 ∨ n % 5 = 4 := by omega
  rcases h with h | h | h | h | h <;> rw [h] <;> decide
set_option maxHeartbeats 1000000 in
theorem wide_calls (n : Int) (w : World) :
    Calls Tryz.prog 25 #[.int .i64 n] w fun e w' => e = .returned (.int .i64 (wideS n : Nat)) ∧ w = w' := by
  obtain ⟨r, q, h1, h2, h3, h4, h5⟩ := place n 5 (by decide)
  have h6 := Int.mul_tdiv_add_tmod n 5
  have h1' : Int.tmod n 5 = r := h1
  rw [h1'] at h6
  have hq : n % 5 = (q : Int) := by omega
  have hw : wideS n = if (q : Int) = 4 then 0 else 2 ^ q := by unfold wideS; rw [hq, Int.toNat_natCast]
  rw [hw]
  have h4' : r % 5 = (q : Int) := h4
  have g2 : -5 < r := h2
  have g3 : r < 5 := h3
  have hc : q = 0 ∨ q = 1 ∨ q = 2 ∨ q = 3 ∨ q = 4 := by omega
  clear hw hq h6 h4 h1 h2 h3 h5
  rcases hc with rfl | rfl | rfl | rfl | rfl
  all_goals
    go_enter Tryz.func25, Tryz.ntmps25
    go_wp2
    go_ret
    exact ⟨rfl, rfl⟩

def getS (B : List UInt8) (at_ : Nat) (e : Int) (n : Nat) : Nat × Nat × Int := if n = 0 then vS B at_ e else numS B at_ e n
theorem numS_broken (B : List UInt8) (at_ : Nat) (e : Int) (W : Nat) (h : e ≠ 0) : numS B at_ e W = (0, at_, e) := by
  unfold numS; rw [if_neg (fun p => h p.1), if_neg h]
theorem bytesS_broken (B : List UInt8) (at_ : Nat) (e k : Int) (h : e ≠ 0) : bytesS B at_ e k = ([], at_, e) := by
  unfold bytesS; rw [if_neg (fun p => h p.1), if_neg h]
theorem vS_broken (B : List UInt8) (at_ : Nat) (e : Int) (h : e ≠ 0) : vS B at_ e = (0, at_, e) := by
  unfold vS; rw [if_neg h]
theorem getS_broken (B : List UInt8) (at_ : Nat) (e : Int) (n : Nat) (h : e ≠ 0) : getS B at_ e n = (0, at_, e) := by
  unfold getS; split
  · exact vS_broken B at_ e h
  · exact numS_broken B at_ e n h
theorem leftS_broken (B : List UInt8) (at_ : Nat) (e : Int) (h : e ≠ 0) : leftS B at_ e = 0 := by
  unfold leftS; rw [if_neg h]


/-- the bytes of a number put in some width. -/
def putS (x n : Nat) : List UInt8 := if n = 0 then vF 9 x else leB x n


set_option maxHeartbeats 1000000 in
theorem put1_calls (A : Option Addr) (m c : Nat) (xs : List UInt8) (x : Nat) (w : World) (h : RB w A m c xs) (hm : m ≤ 140737488351000) :
    Calls Tryz.prog 24 #[.slice A m c, .int .u64 (x : Int), .int .i64 1] w fun en w' => ∃ g m' c', en = .returned (.slice (some ⟨g, 0, none⟩) m' c') ∧ w.heap.size ≤ g ∧ OB w' g m' c' (xs ++ leB x 1) ∧ Below w.heap.size w w' := by
  obtain ⟨y, hy⟩ : ∃ y, x % 256 ^ 1 = y := ⟨_, rfl⟩
  have e1 : leB y 1 = leB x 1 := by rw [← hy]; exact leB_mod x 1 1 (Nat.le_refl _)
  have l1 : y < 256 ^ 1 := by rw [← hy]; exact Nat.mod_lt _ (by decide)
  have c1 : (x : Int) % 256 = (y : Int) := by rw [← hy, show 256 ^ 1 = 256 from rfl]; omega
  have G := Put8_calls A m c xs y w h (by omega) l1
  rw [e1] at G
  clear e1 l1 hy
  go_enter Tryz.func24, Tryz.ntmps24
  go_wp2_with (go_at_call 79; refine G.mono ?_; rintro en w2 ⟨g, c2, rfl, s2, o2, b2⟩)
  go_ret
  exact ⟨g, _, c2, rfl, s2, o2, b2⟩

set_option maxHeartbeats 1000000 in
theorem put2_calls (A : Option Addr) (m c : Nat) (xs : List UInt8) (x : Nat) (w : World) (h : RB w A m c xs) (hm : m ≤ 140737488351000) :
    Calls Tryz.prog 24 #[.slice A m c, .int .u64 (x : Int), .int .i64 2] w fun en w' => ∃ g m' c', en = .returned (.slice (some ⟨g, 0, none⟩) m' c') ∧ w.heap.size ≤ g ∧ OB w' g m' c' (xs ++ leB x 2) ∧ Below w.heap.size w w' := by
  obtain ⟨y, hy⟩ : ∃ y, x % 256 ^ 2 = y := ⟨_, rfl⟩
  have e1 : leB y 2 = leB x 2 := by rw [← hy]; exact leB_mod x 2 2 (Nat.le_refl _)
  have l1 : y < 256 ^ 2 := by rw [← hy]; exact Nat.mod_lt _ (by decide)
  have c1 : IntKind.u16.wrap (x : Int) = (y : Int) := by rw [← hy, show 256 ^ 2 = 65536 from rfl, IntKind.wrap_u16]; omega
  have G := Put16_calls A m c xs y w h (by omega) l1
  rw [e1] at G
  clear e1 l1 hy
  go_enter Tryz.func24, Tryz.ntmps24
  go_wp2_with (go_at_call 71; refine G.mono ?_; rintro en w2 ⟨g, c2, rfl, s2, o2, b2⟩)
  go_ret
  exact ⟨g, _, c2, rfl, s2, o2, b2⟩

set_option maxHeartbeats 1000000 in
theorem put4_calls (A : Option Addr) (m c : Nat) (xs : List UInt8) (x : Nat) (w : World) (h : RB w A m c xs) (hm : m ≤ 140737488351000) :
    Calls Tryz.prog 24 #[.slice A m c, .int .u64 (x : Int), .int .i64 4] w fun en w' => ∃ g m' c', en = .returned (.slice (some ⟨g, 0, none⟩) m' c') ∧ w.heap.size ≤ g ∧ OB w' g m' c' (xs ++ leB x 4) ∧ Below w.heap.size w w' := by
  obtain ⟨y, hy⟩ : ∃ y, x % 256 ^ 4 = y := ⟨_, rfl⟩
  have e1 : leB y 4 = leB x 4 := by rw [← hy]; exact leB_mod x 4 4 (Nat.le_refl _)
  have l1 : y < 256 ^ 4 := by rw [← hy]; exact Nat.mod_lt _ (by decide)
  have c1 : IntKind.u32.wrap (x : Int) = (y : Int) := by rw [← hy, show 256 ^ 4 = 4294967296 from rfl, IntKind.wrap_u32]; omega
  have G := Put32_calls A m c xs y w h (by omega) l1
  rw [e1] at G
  clear e1 l1 hy
  go_enter Tryz.func24, Tryz.ntmps24
  go_wp2_with (go_at_call 80; refine G.mono ?_; rintro en w2 ⟨g, c2, rfl, s2, o2, b2⟩)
  go_ret
  exact ⟨g, _, c2, rfl, s2, o2, b2⟩

set_option maxHeartbeats 1000000 in
theorem put8_calls (A : Option Addr) (m c : Nat) (xs : List UInt8) (x : Nat) (w : World) (h : RB w A m c xs) (hm : m ≤ 140737488351000) (hx : x < 18446744073709551616) :
    Calls Tryz.prog 24 #[.slice A m c, .int .u64 (x : Int), .int .i64 8] w fun en w' => ∃ g m' c', en = .returned (.slice (some ⟨g, 0, none⟩) m' c') ∧ w.heap.size ≤ g ∧ OB w' g m' c' (xs ++ leB x 8) ∧ Below w.heap.size w w' := by
  have G := Put64_calls A m c xs x w h (by omega) (Nat.lt_of_lt_of_le hx (by decide))
  clear hx
  go_enter Tryz.func24, Tryz.ntmps24
  go_wp2_with (go_at_call 81; refine G.mono ?_; rintro en w2 ⟨g, c2, rfl, s2, o2, b2⟩)
  go_ret
  exact ⟨g, _, c2, rfl, s2, o2, b2⟩
set_option maxHeartbeats 1000000 in
theorem put0_calls (A : Option Addr) (m c : Nat) (xs : List UInt8) (x : Nat) (w : World) (h : RB w A m c xs) (hm : m ≤ 140737488351000) (hx : x < 18446744073709551616) :
    Calls Tryz.prog 24 #[.slice A m c, .int .u64 (x : Int), .int .i64 0] w fun en w' => ∃ g m' c', en = .returned (.slice (some ⟨g, 0, none⟩) m' c') ∧ w.heap.size ≤ g ∧ OB w' g m' c' (xs ++ vF 9 x) ∧ Below w.heap.size w w' := by
  have G := PutV_calls A m c xs x w h (by omega) hx
  clear hx
  go_enter Tryz.func24, Tryz.ntmps24
  go_wp2_with (go_at_call 72; refine G.mono ?_; rintro en w2 ⟨g, m2, c2, rfl, s2, o2, b2⟩)
  go_ret
  exact ⟨g, m2, c2, rfl, s2, o2, b2⟩
theorem put_calls (A : Option Addr) (m c : Nat) (xs : List UInt8) (x n : Nat) (w : World) (h : RB w A m c xs) (hm : m ≤ 140737488351000) (hx : x < 18446744073709551616) (hn : n = 0 ∨ n = 1 ∨ n = 2 ∨ n = 4 ∨ n = 8) :
    Calls Tryz.prog 24 #[.slice A m c, .int .u64 (x : Int), .int .i64 (n : Int)] w fun en w' => ∃ g m' c', en = .returned (.slice (some ⟨g, 0, none⟩) m' c') ∧ w.heap.size ≤ g ∧ OB w' g m' c' (xs ++ putS x n) ∧ Below w.heap.size w w' := by
  rcases hn with rfl | rfl | rfl | rfl | rfl
  · exact put0_calls A m c xs x w h hm hx
  · exact put1_calls A m c xs x w h hm
  · exact put2_calls A m c xs x w h hm
  · exact put4_calls A m c xs x w h hm
  · exact put8_calls A m c xs x w h hm hx
end Go.Proofs.YtmeakhiiebeneaaGreatDoor
