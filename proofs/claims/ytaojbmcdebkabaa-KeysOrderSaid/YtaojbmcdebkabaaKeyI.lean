/- The walk of the law KeysOrder. -/
import Derived.Test.YtaojbmcdebkabaaKeyG
namespace Go.Proofs.Ytaojbmcdebkabaa
open Go.RowKit

/-- What the law asks of three comparisons. -/
theorem three (a b c : Nat) : (65536 < a ∨ (a ≤ 65536 ∧ 65536 < b) ∨ (a ≤ 65536 ∧ b ≤ 65536 ∧ 65536 < c)) ∨ (a ≤ 65536 ∧ b ≤ 65536 ∧ c ≤ 65536) := by omega
theorem order_law (a b c : List UInt8) (h : Key.cmpB a b ≤ 0) (k : Key.cmpB b c ≤ 0) : Key.cmpB a c ≤ 0 ∧ (Key.cmpB a c = 0 → Key.cmpB a b = 0 ∧ Key.cmpB b c = 0) := by
  have := Key.order a b c h k
  have t1 := Key.cmpB_three a b
  have t2 := Key.cmpB_three b c
  have t3 := Key.cmpB_three a c
  constructor
  · omega
  · intro e; constructor <;> omega
set_option maxRecDepth 100000 in
set_option maxHeartbeats 4000000 in
theorem KeysOrder_neg (A0 : Option Addr) (n0 c0 : Nat) (xs : List UInt8) (A1 : Option Addr) (n1 c1 : Nat) (ys : List UInt8) (A2 : Option Addr) (n2 c2 : Nat) (A3 : Option Addr) (nd c3 : Nat) (ds : List UInt8) (w : World)
    (hx : RB w A0 n0 c0 xs) (hy : RB w A1 n1 c1 ys) (hd : RB w A3 nd c3 ds) (x z v : Int) (same : (x == 0) = decide (xs = ys)) (x1 : -1 ≤ x) (x2 : x ≤ 1)
    (con1 : ∀ w1, Below w.heap.size w w1 → Calls Try.prog 11 #[.slice A0 n0 c0, .slice A1 n1 c1] w1 fun e w' => e = .returned (.int .i64 x) ∧ w1 = w')
    (con2 : ∀ w1, Below w.heap.size w w1 → Calls Try.prog 11 #[.slice A1 n1 c1, .slice A0 n0 c0] w1 fun e w' => e = .returned (.int .i64 (-x)) ∧ w1 = w')
    (con3 : ∀ w1, Below w.heap.size w w1 → Calls Try.prog 11 #[.slice A1 n1 c1, .slice A2 n2 c2] w1 fun e w' => e = .returned (.int .i64 z) ∧ w1 = w')
    (con4 : ∀ w1, Below w.heap.size w w1 → Calls Try.prog 11 #[.slice A0 n0 c0, .slice A2 n2 c2] w1 fun e w' => e = .returned (.int .i64 v) ∧ w1 = w')
    (con5 : ∀ w1 g d g' d', RB w1 (some ⟨g, 0, none⟩) (nd + n0) d (ds ++ xs) → RB w1 (some ⟨g', 0, none⟩) (nd + n1) d' (ds ++ ys) → Calls Try.prog 11 #[.slice (some ⟨g, 0, none⟩) (nd + n0) d, .slice (some ⟨g', 0, none⟩) (nd + n1) d'] w1 fun e w' => e = .returned (.int .i64 x) ∧ w1 = w')
    (hyp : x ≤ 0 ∧ z ≤ 0 ∧ v < 0) :
    Calls Try.prog 7 #[.slice A0 n0 c0, .slice A1 n1 c1, .slice A2 n2 c2, .slice A3 nd c3] w fun e w' => e = .returned (.bool true) ∧ Below w.heap.size w w' := by
  obtain ⟨h1, h2, h3⟩ := hyp
  rcases three nd n0 n1 with (h | ⟨h, h'⟩ | ⟨h, h', h''⟩) | ⟨h, h', h''⟩
  · have k1 : (65536 : Int) < nd := by omega
    go_enter Try.func7, Try.ntmps7
    go_wp2_with (first
      | (go_at_call 19; refine (SameBytes_calls _ _ _ _ _ _ _ _ _ (hx.below b1) (hy.below b1) (x == 0) same).mono ?_; rintro e w9 ⟨rfl, rfl⟩)
      | (go_at_call 11; ((with_reducible refine (con1 _ b1).mono ?_); rintro e w2 ⟨rfl, rfl⟩))
      | (go_at_call 11; ((with_reducible refine (con2 _ b1).mono ?_); rintro e w2 ⟨rfl, rfl⟩))
      | (go_at_call 11; ((with_reducible refine (con3 _ b1).mono ?_); rintro e w2 ⟨rfl, rfl⟩))
      | (go_at_call 11; ((with_reducible refine (con4 _ b1).mono ?_); rintro e w2 ⟨rfl, rfl⟩))
      | (go_at_call 10; refine (first_calls _).mono ?_; rintro e w1 ⟨rfl, b1⟩))
    go_ret
    exact ⟨rfl, b1⟩
  · have k1 : (nd : Int) ≤ 65536 := by omega
    have k2 : (65536 : Int) < n0 := by omega
    go_enter Try.func7, Try.ntmps7
    go_wp2_with (first
      | (go_at_call 19; refine (SameBytes_calls _ _ _ _ _ _ _ _ _ (hx.below b1) (hy.below b1) (x == 0) same).mono ?_; rintro e w9 ⟨rfl, rfl⟩)
      | (go_at_call 11; ((with_reducible refine (con1 _ b1).mono ?_); rintro e w2 ⟨rfl, rfl⟩))
      | (go_at_call 11; ((with_reducible refine (con2 _ b1).mono ?_); rintro e w2 ⟨rfl, rfl⟩))
      | (go_at_call 11; ((with_reducible refine (con3 _ b1).mono ?_); rintro e w2 ⟨rfl, rfl⟩))
      | (go_at_call 11; ((with_reducible refine (con4 _ b1).mono ?_); rintro e w2 ⟨rfl, rfl⟩))
      | (go_at_call 10; refine (first_calls _).mono ?_; rintro e w1 ⟨rfl, b1⟩))
    go_ret
    exact ⟨rfl, b1⟩
  · have k1 : (nd : Int) ≤ 65536 := by omega
    have k2 : (n0 : Int) ≤ 65536 := by omega
    have k3 : (65536 : Int) < n1 := by omega
    go_enter Try.func7, Try.ntmps7
    go_wp2_with (first
      | (go_at_call 19; refine (SameBytes_calls _ _ _ _ _ _ _ _ _ (hx.below b1) (hy.below b1) (x == 0) same).mono ?_; rintro e w9 ⟨rfl, rfl⟩)
      | (go_at_call 11; ((with_reducible refine (con1 _ b1).mono ?_); rintro e w2 ⟨rfl, rfl⟩))
      | (go_at_call 11; ((with_reducible refine (con2 _ b1).mono ?_); rintro e w2 ⟨rfl, rfl⟩))
      | (go_at_call 11; ((with_reducible refine (con3 _ b1).mono ?_); rintro e w2 ⟨rfl, rfl⟩))
      | (go_at_call 11; ((with_reducible refine (con4 _ b1).mono ?_); rintro e w2 ⟨rfl, rfl⟩))
      | (go_at_call 10; refine (first_calls _).mono ?_; rintro e w1 ⟨rfl, b1⟩))
    go_ret
    exact ⟨rfl, b1⟩
  · have k1 : (nd : Int) ≤ 65536 := by omega
    have k2 : (n0 : Int) ≤ 65536 := by omega
    have k3 : (n1 : Int) ≤ 65536 := by omega
    go_enter Try.func7, Try.ntmps7
    go_wp2_with (first
      | (go_at_call 11; ((with_reducible refine (con5 _ _ _ _ _ o35.read o5.read).mono ?_); rintro e w6 ⟨rfl, rfl⟩))
      | (at_builtin; refine wpB_app rfl _ _ rfl _ _ _ _ rfl o4 _ _ _ _ rfl y4 (nd + n1) rfl (by omega) ?_; intro g5 d5 w5 q5 p5 o5 k5; have l4 := o4.lt; have b5 := b4.grown k5 b4.size (by simp; omega); have o35 := o34.same (Sm.of_grown k5 (Nat.lt_of_lt_of_le l3 b4'.size) (by simp; omega)))
      | (go_at_call 25; refine (Bytes_calls _ _ _ _ _ (hd.below b3) (by omega)).mono ?_; rintro e w4 ⟨g4, d4, rfl, s4, o4, b4'⟩; have b4 := b3.trans (b4'.mono b3.size); have y4 := hy.below b4; have o34 := o3.below b4')
      | (at_builtin; refine wpB_app rfl _ _ rfl _ _ _ _ rfl o2 _ _ _ _ rfl x2 (nd + n0) rfl (by omega) ?_; intro g3 d3 w3 q3 p3 o3 k3; have l2 := o2.lt; have l3 := o3.lt; have b3 := b2.grown k3 b2.size (by simp; omega))
      | (go_at_call 25; refine (Bytes_calls _ _ _ _ _ (hd.below b1) (by omega)).mono ?_; rintro e w2 ⟨g2, d2, rfl, s2, o2, b2'⟩; have z1 := b1.size; have b2 := b1.trans (b2'.mono z1); have x2 := hx.below b2)
      | (go_at_call 19; refine (SameBytes_calls _ _ _ _ _ _ _ _ _ (hx.below b1) (hy.below b1) (x == 0) same).mono ?_; rintro e w9 ⟨rfl, rfl⟩)
      | (go_at_call 11; ((with_reducible refine (con1 _ b1).mono ?_); rintro e w2 ⟨rfl, rfl⟩))
      | (go_at_call 11; ((with_reducible refine (con2 _ b1).mono ?_); rintro e w2 ⟨rfl, rfl⟩))
      | (go_at_call 11; ((with_reducible refine (con3 _ b1).mono ?_); rintro e w2 ⟨rfl, rfl⟩))
      | (go_at_call 11; ((with_reducible refine (con4 _ b1).mono ?_); rintro e w2 ⟨rfl, rfl⟩))
      | (go_at_call 10; refine (first_calls _).mono ?_; rintro e w1 ⟨rfl, b1⟩))
    go_ret
    exact ⟨rfl, b5⟩

set_option maxRecDepth 100000 in
set_option maxHeartbeats 4000000 in
theorem KeysOrder_zero (A0 : Option Addr) (n0 c0 : Nat) (xs : List UInt8) (A1 : Option Addr) (n1 c1 : Nat) (ys : List UInt8) (A2 : Option Addr) (n2 c2 : Nat) (A3 : Option Addr) (nd c3 : Nat) (ds : List UInt8) (w : World)
    (hx : RB w A0 n0 c0 xs) (hy : RB w A1 n1 c1 ys) (hd : RB w A3 nd c3 ds) (x z v : Int) (same : (x == 0) = decide (xs = ys)) (x1 : -1 ≤ x) (x2 : x ≤ 1)
    (con1 : ∀ w1, Below w.heap.size w w1 → Calls Try.prog 11 #[.slice A0 n0 c0, .slice A1 n1 c1] w1 fun e w' => e = .returned (.int .i64 x) ∧ w1 = w')
    (con2 : ∀ w1, Below w.heap.size w w1 → Calls Try.prog 11 #[.slice A1 n1 c1, .slice A0 n0 c0] w1 fun e w' => e = .returned (.int .i64 (-x)) ∧ w1 = w')
    (con3 : ∀ w1, Below w.heap.size w w1 → Calls Try.prog 11 #[.slice A1 n1 c1, .slice A2 n2 c2] w1 fun e w' => e = .returned (.int .i64 z) ∧ w1 = w')
    (con4 : ∀ w1, Below w.heap.size w w1 → Calls Try.prog 11 #[.slice A0 n0 c0, .slice A2 n2 c2] w1 fun e w' => e = .returned (.int .i64 v) ∧ w1 = w')
    (con5 : ∀ w1 g d g' d', RB w1 (some ⟨g, 0, none⟩) (nd + n0) d (ds ++ xs) → RB w1 (some ⟨g', 0, none⟩) (nd + n1) d' (ds ++ ys) → Calls Try.prog 11 #[.slice (some ⟨g, 0, none⟩) (nd + n0) d, .slice (some ⟨g', 0, none⟩) (nd + n1) d'] w1 fun e w' => e = .returned (.int .i64 x) ∧ w1 = w')
    (hyp : (x ≤ 0 ∧ 0 ≤ x) ∧ (z ≤ 0 ∧ 0 ≤ z) ∧ (v ≤ 0 ∧ 0 ≤ v)) :
    Calls Try.prog 7 #[.slice A0 n0 c0, .slice A1 n1 c1, .slice A2 n2 c2, .slice A3 nd c3] w fun e w' => e = .returned (.bool true) ∧ Below w.heap.size w w' := by
  obtain ⟨⟨h1, h1'⟩, ⟨h2, h2'⟩, h3, h3'⟩ := hyp
  rcases three nd n0 n1 with (h | ⟨h, h'⟩ | ⟨h, h', h''⟩) | ⟨h, h', h''⟩
  · have k1 : (65536 : Int) < nd := by omega
    go_enter Try.func7, Try.ntmps7
    go_wp2_with (first
      | (go_at_call 19; refine (SameBytes_calls _ _ _ _ _ _ _ _ _ (hx.below b1) (hy.below b1) (x == 0) same).mono ?_; rintro e w9 ⟨rfl, rfl⟩)
      | (go_at_call 11; ((with_reducible refine (con1 _ b1).mono ?_); rintro e w2 ⟨rfl, rfl⟩))
      | (go_at_call 11; ((with_reducible refine (con2 _ b1).mono ?_); rintro e w2 ⟨rfl, rfl⟩))
      | (go_at_call 11; ((with_reducible refine (con3 _ b1).mono ?_); rintro e w2 ⟨rfl, rfl⟩))
      | (go_at_call 11; ((with_reducible refine (con4 _ b1).mono ?_); rintro e w2 ⟨rfl, rfl⟩))
      | (go_at_call 10; refine (first_calls _).mono ?_; rintro e w1 ⟨rfl, b1⟩))
    go_ret
    exact ⟨rfl, b1⟩
  · have k1 : (nd : Int) ≤ 65536 := by omega
    have k2 : (65536 : Int) < n0 := by omega
    go_enter Try.func7, Try.ntmps7
    go_wp2_with (first
      | (go_at_call 19; refine (SameBytes_calls _ _ _ _ _ _ _ _ _ (hx.below b1) (hy.below b1) (x == 0) same).mono ?_; rintro e w9 ⟨rfl, rfl⟩)
      | (go_at_call 11; ((with_reducible refine (con1 _ b1).mono ?_); rintro e w2 ⟨rfl, rfl⟩))
      | (go_at_call 11; ((with_reducible refine (con2 _ b1).mono ?_); rintro e w2 ⟨rfl, rfl⟩))
      | (go_at_call 11; ((with_reducible refine (con3 _ b1).mono ?_); rintro e w2 ⟨rfl, rfl⟩))
      | (go_at_call 11; ((with_reducible refine (con4 _ b1).mono ?_); rintro e w2 ⟨rfl, rfl⟩))
      | (go_at_call 10; refine (first_calls _).mono ?_; rintro e w1 ⟨rfl, b1⟩))
    go_ret
    exact ⟨rfl, b1⟩
  · have k1 : (nd : Int) ≤ 65536 := by omega
    have k2 : (n0 : Int) ≤ 65536 := by omega
    have k3 : (65536 : Int) < n1 := by omega
    go_enter Try.func7, Try.ntmps7
    go_wp2_with (first
      | (go_at_call 19; refine (SameBytes_calls _ _ _ _ _ _ _ _ _ (hx.below b1) (hy.below b1) (x == 0) same).mono ?_; rintro e w9 ⟨rfl, rfl⟩)
      | (go_at_call 11; ((with_reducible refine (con1 _ b1).mono ?_); rintro e w2 ⟨rfl, rfl⟩))
      | (go_at_call 11; ((with_reducible refine (con2 _ b1).mono ?_); rintro e w2 ⟨rfl, rfl⟩))
      | (go_at_call 11; ((with_reducible refine (con3 _ b1).mono ?_); rintro e w2 ⟨rfl, rfl⟩))
      | (go_at_call 11; ((with_reducible refine (con4 _ b1).mono ?_); rintro e w2 ⟨rfl, rfl⟩))
      | (go_at_call 10; refine (first_calls _).mono ?_; rintro e w1 ⟨rfl, b1⟩))
    go_ret
    exact ⟨rfl, b1⟩
  · have k1 : (nd : Int) ≤ 65536 := by omega
    have k2 : (n0 : Int) ≤ 65536 := by omega
    have k3 : (n1 : Int) ≤ 65536 := by omega
    go_enter Try.func7, Try.ntmps7
    go_wp2_with (first
      | (go_at_call 11; ((with_reducible refine (con5 _ _ _ _ _ o35.read o5.read).mono ?_); rintro e w6 ⟨rfl, rfl⟩))
      | (at_builtin; refine wpB_app rfl _ _ rfl _ _ _ _ rfl o4 _ _ _ _ rfl y4 (nd + n1) rfl (by omega) ?_; intro g5 d5 w5 q5 p5 o5 k5; have l4 := o4.lt; have b5 := b4.grown k5 b4.size (by simp; omega); have o35 := o34.same (Sm.of_grown k5 (Nat.lt_of_lt_of_le l3 b4'.size) (by simp; omega)))
      | (go_at_call 25; refine (Bytes_calls _ _ _ _ _ (hd.below b3) (by omega)).mono ?_; rintro e w4 ⟨g4, d4, rfl, s4, o4, b4'⟩; have b4 := b3.trans (b4'.mono b3.size); have y4 := hy.below b4; have o34 := o3.below b4')
      | (at_builtin; refine wpB_app rfl _ _ rfl _ _ _ _ rfl o2 _ _ _ _ rfl x2 (nd + n0) rfl (by omega) ?_; intro g3 d3 w3 q3 p3 o3 k3; have l2 := o2.lt; have l3 := o3.lt; have b3 := b2.grown k3 b2.size (by simp; omega))
      | (go_at_call 25; refine (Bytes_calls _ _ _ _ _ (hd.below b1) (by omega)).mono ?_; rintro e w2 ⟨g2, d2, rfl, s2, o2, b2'⟩; have z1 := b1.size; have b2 := b1.trans (b2'.mono z1); have x2 := hx.below b2)
      | (go_at_call 19; refine (SameBytes_calls _ _ _ _ _ _ _ _ _ (hx.below b1) (hy.below b1) (x == 0) same).mono ?_; rintro e w9 ⟨rfl, rfl⟩)
      | (go_at_call 11; ((with_reducible refine (con1 _ b1).mono ?_); rintro e w2 ⟨rfl, rfl⟩))
      | (go_at_call 11; ((with_reducible refine (con2 _ b1).mono ?_); rintro e w2 ⟨rfl, rfl⟩))
      | (go_at_call 11; ((with_reducible refine (con3 _ b1).mono ?_); rintro e w2 ⟨rfl, rfl⟩))
      | (go_at_call 11; ((with_reducible refine (con4 _ b1).mono ?_); rintro e w2 ⟨rfl, rfl⟩))
      | (go_at_call 10; refine (first_calls _).mono ?_; rintro e w1 ⟨rfl, b1⟩))
    go_ret
    exact ⟨rfl, b5⟩

set_option maxRecDepth 100000 in
set_option maxHeartbeats 4000000 in
theorem KeysOrder_ahead (A0 : Option Addr) (n0 c0 : Nat) (xs : List UInt8) (A1 : Option Addr) (n1 c1 : Nat) (ys : List UInt8) (A2 : Option Addr) (n2 c2 : Nat) (A3 : Option Addr) (nd c3 : Nat) (ds : List UInt8) (w : World)
    (hx : RB w A0 n0 c0 xs) (hy : RB w A1 n1 c1 ys) (hd : RB w A3 nd c3 ds) (x z v : Int) (same : (x == 0) = decide (xs = ys)) (x1 : -1 ≤ x) (x2 : x ≤ 1)
    (con1 : ∀ w1, Below w.heap.size w w1 → Calls Try.prog 11 #[.slice A0 n0 c0, .slice A1 n1 c1] w1 fun e w' => e = .returned (.int .i64 x) ∧ w1 = w')
    (con2 : ∀ w1, Below w.heap.size w w1 → Calls Try.prog 11 #[.slice A1 n1 c1, .slice A0 n0 c0] w1 fun e w' => e = .returned (.int .i64 (-x)) ∧ w1 = w')
    (con3 : ∀ w1, Below w.heap.size w w1 → Calls Try.prog 11 #[.slice A1 n1 c1, .slice A2 n2 c2] w1 fun e w' => e = .returned (.int .i64 z) ∧ w1 = w')
    (con4 : ∀ w1, Below w.heap.size w w1 → Calls Try.prog 11 #[.slice A0 n0 c0, .slice A2 n2 c2] w1 fun e w' => e = .returned (.int .i64 v) ∧ w1 = w')
    (con5 : ∀ w1 g d g' d', RB w1 (some ⟨g, 0, none⟩) (nd + n0) d (ds ++ xs) → RB w1 (some ⟨g', 0, none⟩) (nd + n1) d' (ds ++ ys) → Calls Try.prog 11 #[.slice (some ⟨g, 0, none⟩) (nd + n0) d, .slice (some ⟨g', 0, none⟩) (nd + n1) d'] w1 fun e w' => e = .returned (.int .i64 x) ∧ w1 = w')
    (hyp : 0 < x) :
    Calls Try.prog 7 #[.slice A0 n0 c0, .slice A1 n1 c1, .slice A2 n2 c2, .slice A3 nd c3] w fun e w' => e = .returned (.bool true) ∧ Below w.heap.size w w' := by
  have h1 := hyp
  rcases three nd n0 n1 with (h | ⟨h, h'⟩ | ⟨h, h', h''⟩) | ⟨h, h', h''⟩
  · have k1 : (65536 : Int) < nd := by omega
    go_enter Try.func7, Try.ntmps7
    go_wp2_with (first
      | (go_at_call 19; refine (SameBytes_calls _ _ _ _ _ _ _ _ _ (hx.below b1) (hy.below b1) (x == 0) same).mono ?_; rintro e w9 ⟨rfl, rfl⟩)
      | (go_at_call 11; ((with_reducible refine (con1 _ b1).mono ?_); rintro e w2 ⟨rfl, rfl⟩))
      | (go_at_call 11; ((with_reducible refine (con2 _ b1).mono ?_); rintro e w2 ⟨rfl, rfl⟩))
      | (go_at_call 11; ((with_reducible refine (con3 _ b1).mono ?_); rintro e w2 ⟨rfl, rfl⟩))
      | (go_at_call 11; ((with_reducible refine (con4 _ b1).mono ?_); rintro e w2 ⟨rfl, rfl⟩))
      | (go_at_call 10; refine (first_calls _).mono ?_; rintro e w1 ⟨rfl, b1⟩))
    go_ret
    exact ⟨rfl, b1⟩
  · have k1 : (nd : Int) ≤ 65536 := by omega
    have k2 : (65536 : Int) < n0 := by omega
    go_enter Try.func7, Try.ntmps7
    go_wp2_with (first
      | (go_at_call 19; refine (SameBytes_calls _ _ _ _ _ _ _ _ _ (hx.below b1) (hy.below b1) (x == 0) same).mono ?_; rintro e w9 ⟨rfl, rfl⟩)
      | (go_at_call 11; ((with_reducible refine (con1 _ b1).mono ?_); rintro e w2 ⟨rfl, rfl⟩))
      | (go_at_call 11; ((with_reducible refine (con2 _ b1).mono ?_); rintro e w2 ⟨rfl, rfl⟩))
      | (go_at_call 11; ((with_reducible refine (con3 _ b1).mono ?_); rintro e w2 ⟨rfl, rfl⟩))
      | (go_at_call 11; ((with_reducible refine (con4 _ b1).mono ?_); rintro e w2 ⟨rfl, rfl⟩))
      | (go_at_call 10; refine (first_calls _).mono ?_; rintro e w1 ⟨rfl, b1⟩))
    go_ret
    exact ⟨rfl, b1⟩
  · have k1 : (nd : Int) ≤ 65536 := by omega
    have k2 : (n0 : Int) ≤ 65536 := by omega
    have k3 : (65536 : Int) < n1 := by omega
    go_enter Try.func7, Try.ntmps7
    go_wp2_with (first
      | (go_at_call 19; refine (SameBytes_calls _ _ _ _ _ _ _ _ _ (hx.below b1) (hy.below b1) (x == 0) same).mono ?_; rintro e w9 ⟨rfl, rfl⟩)
      | (go_at_call 11; ((with_reducible refine (con1 _ b1).mono ?_); rintro e w2 ⟨rfl, rfl⟩))
      | (go_at_call 11; ((with_reducible refine (con2 _ b1).mono ?_); rintro e w2 ⟨rfl, rfl⟩))
      | (go_at_call 11; ((with_reducible refine (con3 _ b1).mono ?_); rintro e w2 ⟨rfl, rfl⟩))
      | (go_at_call 11; ((with_reducible refine (con4 _ b1).mono ?_); rintro e w2 ⟨rfl, rfl⟩))
      | (go_at_call 10; refine (first_calls _).mono ?_; rintro e w1 ⟨rfl, b1⟩))
    go_ret
    exact ⟨rfl, b1⟩
  · have k1 : (nd : Int) ≤ 65536 := by omega
    have k2 : (n0 : Int) ≤ 65536 := by omega
    have k3 : (n1 : Int) ≤ 65536 := by omega
    go_enter Try.func7, Try.ntmps7
    go_wp2_with (first
      | (go_at_call 11; ((with_reducible refine (con5 _ _ _ _ _ o35.read o5.read).mono ?_); rintro e w6 ⟨rfl, rfl⟩))
      | (at_builtin; refine wpB_app rfl _ _ rfl _ _ _ _ rfl o4 _ _ _ _ rfl y4 (nd + n1) rfl (by omega) ?_; intro g5 d5 w5 q5 p5 o5 k5; have l4 := o4.lt; have b5 := b4.grown k5 b4.size (by simp; omega); have o35 := o34.same (Sm.of_grown k5 (Nat.lt_of_lt_of_le l3 b4'.size) (by simp; omega)))
      | (go_at_call 25; refine (Bytes_calls _ _ _ _ _ (hd.below b3) (by omega)).mono ?_; rintro e w4 ⟨g4, d4, rfl, s4, o4, b4'⟩; have b4 := b3.trans (b4'.mono b3.size); have y4 := hy.below b4; have o34 := o3.below b4')
      | (at_builtin; refine wpB_app rfl _ _ rfl _ _ _ _ rfl o2 _ _ _ _ rfl x2 (nd + n0) rfl (by omega) ?_; intro g3 d3 w3 q3 p3 o3 k3; have l2 := o2.lt; have l3 := o3.lt; have b3 := b2.grown k3 b2.size (by simp; omega))
      | (go_at_call 25; refine (Bytes_calls _ _ _ _ _ (hd.below b1) (by omega)).mono ?_; rintro e w2 ⟨g2, d2, rfl, s2, o2, b2'⟩; have z1 := b1.size; have b2 := b1.trans (b2'.mono z1); have x2 := hx.below b2)
      | (go_at_call 19; refine (SameBytes_calls _ _ _ _ _ _ _ _ _ (hx.below b1) (hy.below b1) (x == 0) same).mono ?_; rintro e w9 ⟨rfl, rfl⟩)
      | (go_at_call 11; ((with_reducible refine (con1 _ b1).mono ?_); rintro e w2 ⟨rfl, rfl⟩))
      | (go_at_call 11; ((with_reducible refine (con2 _ b1).mono ?_); rintro e w2 ⟨rfl, rfl⟩))
      | (go_at_call 11; ((with_reducible refine (con3 _ b1).mono ?_); rintro e w2 ⟨rfl, rfl⟩))
      | (go_at_call 11; ((with_reducible refine (con4 _ b1).mono ?_); rintro e w2 ⟨rfl, rfl⟩))
      | (go_at_call 10; refine (first_calls _).mono ?_; rintro e w1 ⟨rfl, b1⟩))
    go_ret
    exact ⟨rfl, b5⟩

set_option maxRecDepth 100000 in
set_option maxHeartbeats 4000000 in
theorem KeysOrder_mid (A0 : Option Addr) (n0 c0 : Nat) (xs : List UInt8) (A1 : Option Addr) (n1 c1 : Nat) (ys : List UInt8) (A2 : Option Addr) (n2 c2 : Nat) (A3 : Option Addr) (nd c3 : Nat) (ds : List UInt8) (w : World)
    (hx : RB w A0 n0 c0 xs) (hy : RB w A1 n1 c1 ys) (hd : RB w A3 nd c3 ds) (x z v : Int) (same : (x == 0) = decide (xs = ys)) (x1 : -1 ≤ x) (x2 : x ≤ 1)
    (con1 : ∀ w1, Below w.heap.size w w1 → Calls Try.prog 11 #[.slice A0 n0 c0, .slice A1 n1 c1] w1 fun e w' => e = .returned (.int .i64 x) ∧ w1 = w')
    (con2 : ∀ w1, Below w.heap.size w w1 → Calls Try.prog 11 #[.slice A1 n1 c1, .slice A0 n0 c0] w1 fun e w' => e = .returned (.int .i64 (-x)) ∧ w1 = w')
    (con3 : ∀ w1, Below w.heap.size w w1 → Calls Try.prog 11 #[.slice A1 n1 c1, .slice A2 n2 c2] w1 fun e w' => e = .returned (.int .i64 z) ∧ w1 = w')
    (con4 : ∀ w1, Below w.heap.size w w1 → Calls Try.prog 11 #[.slice A0 n0 c0, .slice A2 n2 c2] w1 fun e w' => e = .returned (.int .i64 v) ∧ w1 = w')
    (con5 : ∀ w1 g d g' d', RB w1 (some ⟨g, 0, none⟩) (nd + n0) d (ds ++ xs) → RB w1 (some ⟨g', 0, none⟩) (nd + n1) d' (ds ++ ys) → Calls Try.prog 11 #[.slice (some ⟨g, 0, none⟩) (nd + n0) d, .slice (some ⟨g', 0, none⟩) (nd + n1) d'] w1 fun e w' => e = .returned (.int .i64 x) ∧ w1 = w')
    (hyp : x ≤ 0 ∧ 0 < z) :
    Calls Try.prog 7 #[.slice A0 n0 c0, .slice A1 n1 c1, .slice A2 n2 c2, .slice A3 nd c3] w fun e w' => e = .returned (.bool true) ∧ Below w.heap.size w w' := by
  obtain ⟨h1, h2⟩ := hyp
  rcases three nd n0 n1 with (h | ⟨h, h'⟩ | ⟨h, h', h''⟩) | ⟨h, h', h''⟩
  · have k1 : (65536 : Int) < nd := by omega
    go_enter Try.func7, Try.ntmps7
    go_wp2_with (first
      | (go_at_call 19; refine (SameBytes_calls _ _ _ _ _ _ _ _ _ (hx.below b1) (hy.below b1) (x == 0) same).mono ?_; rintro e w9 ⟨rfl, rfl⟩)
      | (go_at_call 11; ((with_reducible refine (con1 _ b1).mono ?_); rintro e w2 ⟨rfl, rfl⟩))
      | (go_at_call 11; ((with_reducible refine (con2 _ b1).mono ?_); rintro e w2 ⟨rfl, rfl⟩))
      | (go_at_call 11; ((with_reducible refine (con3 _ b1).mono ?_); rintro e w2 ⟨rfl, rfl⟩))
      | (go_at_call 11; ((with_reducible refine (con4 _ b1).mono ?_); rintro e w2 ⟨rfl, rfl⟩))
      | (go_at_call 10; refine (first_calls _).mono ?_; rintro e w1 ⟨rfl, b1⟩))
    go_ret
    exact ⟨rfl, b1⟩
  · have k1 : (nd : Int) ≤ 65536 := by omega
    have k2 : (65536 : Int) < n0 := by omega
    go_enter Try.func7, Try.ntmps7
    go_wp2_with (first
      | (go_at_call 19; refine (SameBytes_calls _ _ _ _ _ _ _ _ _ (hx.below b1) (hy.below b1) (x == 0) same).mono ?_; rintro e w9 ⟨rfl, rfl⟩)
      | (go_at_call 11; ((with_reducible refine (con1 _ b1).mono ?_); rintro e w2 ⟨rfl, rfl⟩))
      | (go_at_call 11; ((with_reducible refine (con2 _ b1).mono ?_); rintro e w2 ⟨rfl, rfl⟩))
      | (go_at_call 11; ((with_reducible refine (con3 _ b1).mono ?_); rintro e w2 ⟨rfl, rfl⟩))
      | (go_at_call 11; ((with_reducible refine (con4 _ b1).mono ?_); rintro e w2 ⟨rfl, rfl⟩))
      | (go_at_call 10; refine (first_calls _).mono ?_; rintro e w1 ⟨rfl, b1⟩))
    go_ret
    exact ⟨rfl, b1⟩
  · have k1 : (nd : Int) ≤ 65536 := by omega
    have k2 : (n0 : Int) ≤ 65536 := by omega
    have k3 : (65536 : Int) < n1 := by omega
    go_enter Try.func7, Try.ntmps7
    go_wp2_with (first
      | (go_at_call 19; refine (SameBytes_calls _ _ _ _ _ _ _ _ _ (hx.below b1) (hy.below b1) (x == 0) same).mono ?_; rintro e w9 ⟨rfl, rfl⟩)
      | (go_at_call 11; ((with_reducible refine (con1 _ b1).mono ?_); rintro e w2 ⟨rfl, rfl⟩))
      | (go_at_call 11; ((with_reducible refine (con2 _ b1).mono ?_); rintro e w2 ⟨rfl, rfl⟩))
      | (go_at_call 11; ((with_reducible refine (con3 _ b1).mono ?_); rintro e w2 ⟨rfl, rfl⟩))
      | (go_at_call 11; ((with_reducible refine (con4 _ b1).mono ?_); rintro e w2 ⟨rfl, rfl⟩))
      | (go_at_call 10; refine (first_calls _).mono ?_; rintro e w1 ⟨rfl, b1⟩))
    go_ret
    exact ⟨rfl, b1⟩
  · have k1 : (nd : Int) ≤ 65536 := by omega
    have k2 : (n0 : Int) ≤ 65536 := by omega
    have k3 : (n1 : Int) ≤ 65536 := by omega
    go_enter Try.func7, Try.ntmps7
    go_wp2_with (first
      | (go_at_call 11; ((with_reducible refine (con5 _ _ _ _ _ o35.read o5.read).mono ?_); rintro e w6 ⟨rfl, rfl⟩))
      | (at_builtin; refine wpB_app rfl _ _ rfl _ _ _ _ rfl o4 _ _ _ _ rfl y4 (nd + n1) rfl (by omega) ?_; intro g5 d5 w5 q5 p5 o5 k5; have l4 := o4.lt; have b5 := b4.grown k5 b4.size (by simp; omega); have o35 := o34.same (Sm.of_grown k5 (Nat.lt_of_lt_of_le l3 b4'.size) (by simp; omega)))
      | (go_at_call 25; refine (Bytes_calls _ _ _ _ _ (hd.below b3) (by omega)).mono ?_; rintro e w4 ⟨g4, d4, rfl, s4, o4, b4'⟩; have b4 := b3.trans (b4'.mono b3.size); have y4 := hy.below b4; have o34 := o3.below b4')
      | (at_builtin; refine wpB_app rfl _ _ rfl _ _ _ _ rfl o2 _ _ _ _ rfl x2 (nd + n0) rfl (by omega) ?_; intro g3 d3 w3 q3 p3 o3 k3; have l2 := o2.lt; have l3 := o3.lt; have b3 := b2.grown k3 b2.size (by simp; omega))
      | (go_at_call 25; refine (Bytes_calls _ _ _ _ _ (hd.below b1) (by omega)).mono ?_; rintro e w2 ⟨g2, d2, rfl, s2, o2, b2'⟩; have z1 := b1.size; have b2 := b1.trans (b2'.mono z1); have x2 := hx.below b2)
      | (go_at_call 19; refine (SameBytes_calls _ _ _ _ _ _ _ _ _ (hx.below b1) (hy.below b1) (x == 0) same).mono ?_; rintro e w9 ⟨rfl, rfl⟩)
      | (go_at_call 11; ((with_reducible refine (con1 _ b1).mono ?_); rintro e w2 ⟨rfl, rfl⟩))
      | (go_at_call 11; ((with_reducible refine (con2 _ b1).mono ?_); rintro e w2 ⟨rfl, rfl⟩))
      | (go_at_call 11; ((with_reducible refine (con3 _ b1).mono ?_); rintro e w2 ⟨rfl, rfl⟩))
      | (go_at_call 11; ((with_reducible refine (con4 _ b1).mono ?_); rintro e w2 ⟨rfl, rfl⟩))
      | (go_at_call 10; refine (first_calls _).mono ?_; rintro e w1 ⟨rfl, b1⟩))
    go_ret
    exact ⟨rfl, b5⟩

theorem KeysOrder_walk (A0 : Option Addr) (n0 c0 : Nat) (xs : List UInt8) (A1 : Option Addr) (n1 c1 : Nat) (ys : List UInt8) (A2 : Option Addr) (n2 c2 : Nat) (zs : List UInt8) (A3 : Option Addr) (n3 c3 : Nat) (ds : List UInt8) (w : World)
    (hx : RB w A0 n0 c0 xs) (_hb0 : n0 ≤ 140737488351232) (hy : RB w A1 n1 c1 ys) (_hb1 : n1 ≤ 140737488351232) (hz : RB w A2 n2 c2 zs) (_hb2 : n2 ≤ 140737488351232) (hd : RB w A3 n3 c3 ds) (_hb3 : n3 ≤ 140737488351232) :
    Calls Try.prog 7 #[.slice A0 n0 c0, .slice A1 n1 c1, .slice A2 n2 c2, .slice A3 n3 c3] w fun e w' => e = .returned (.bool true) ∧ Below w.heap.size w w' := by
  have con1 : ∀ w1, Below w.heap.size w w1 → Calls Try.prog 11 #[.slice A0 n0 c0, .slice A1 n1 c1] w1 fun e w' => e = .returned (.int .i64 (Key.cmpB xs ys)) ∧ w1 = w' := fun w1 b => Compare_calls _ _ _ _ _ _ _ _ _ (hx.below b) (hy.below b)
  have con2 : ∀ w1, Below w.heap.size w w1 → Calls Try.prog 11 #[.slice A1 n1 c1, .slice A0 n0 c0] w1 fun e w' => e = .returned (.int .i64 (-Key.cmpB xs ys)) ∧ w1 = w' := fun w1 b => by rw [← Key.cmpB_neg]; exact Compare_calls _ _ _ _ _ _ _ _ _ (hy.below b) (hx.below b)
  have con3 : ∀ w1, Below w.heap.size w w1 → Calls Try.prog 11 #[.slice A1 n1 c1, .slice A2 n2 c2] w1 fun e w' => e = .returned (.int .i64 (Key.cmpB ys zs)) ∧ w1 = w' := fun w1 b => Compare_calls _ _ _ _ _ _ _ _ _ (hy.below b) (hz.below b)
  have con4 : ∀ w1, Below w.heap.size w w1 → Calls Try.prog 11 #[.slice A0 n0 c0, .slice A2 n2 c2] w1 fun e w' => e = .returned (.int .i64 (Key.cmpB xs zs)) ∧ w1 = w' := fun w1 b => Compare_calls _ _ _ _ _ _ _ _ _ (hx.below b) (hz.below b)
  have con5 : ∀ w1 g d g' d', RB w1 (some ⟨g, 0, none⟩) (n3 + n0) d (ds ++ xs) → RB w1 (some ⟨g', 0, none⟩) (n3 + n1) d' (ds ++ ys) → Calls Try.prog 11 #[.slice (some ⟨g, 0, none⟩) (n3 + n0) d, .slice (some ⟨g', 0, none⟩) (n3 + n1) d'] w1 fun e w' => e = .returned (.int .i64 (Key.cmpB xs ys)) ∧ w1 = w' := fun w1 g d g' d' r r' => by rw [← Key.cmpB_append ds xs ys]; exact Compare_calls _ _ _ _ _ _ _ _ _ r r'
  have law := order_law xs ys zs
  have t1 := Key.cmpB_three xs ys
  have t2 := Key.cmpB_three ys zs
  have t3 := Key.cmpB_three xs zs
  have same : (Key.cmpB xs ys == 0) = decide (xs = ys) := by rw [Bool.eq_iff_iff, beq_iff_eq, decide_eq_true_eq]; exact Key.cmpB_zero xs ys
  obtain ⟨x, ex⟩ : ∃ x, Key.cmpB xs ys = x := ⟨_, rfl⟩
  obtain ⟨z, ez⟩ : ∃ z, Key.cmpB ys zs = z := ⟨_, rfl⟩
  obtain ⟨v, ev⟩ : ∃ v, Key.cmpB xs zs = v := ⟨_, rfl⟩
  rw [ex] at con1 con2 con5 law same t1
  rw [ez] at con3 law t2
  rw [ev] at con4 law t3
  by_cases hx0 : 0 < x
  · exact KeysOrder_ahead A0 n0 c0 xs A1 n1 c1 ys A2 n2 c2 A3 n3 c3 ds w hx hy hd x z v same (by omega) (by omega) con1 con2 con3 con4 con5 hx0
  by_cases hz0 : 0 < z
  · exact KeysOrder_mid A0 n0 c0 xs A1 n1 c1 ys A2 n2 c2 A3 n3 c3 ds w hx hy hd x z v same (by omega) (by omega) con1 con2 con3 con4 con5 ⟨by omega, hz0⟩
  obtain ⟨l1, l2⟩ := law (by omega) (by omega)
  by_cases hv : v = 0
  · exact KeysOrder_zero A0 n0 c0 xs A1 n1 c1 ys A2 n2 c2 A3 n3 c3 ds w hx hy hd x z v same (by omega) (by omega) con1 con2 con3 con4 con5 ⟨⟨by omega, by have := l2 hv; omega⟩, ⟨by omega, by have := l2 hv; omega⟩, by omega, by omega⟩
  · exact KeysOrder_neg A0 n0 c0 xs A1 n1 c1 ys A2 n2 c2 A3 n3 c3 ds w hx hy hd x z v same (by omega) (by omega) con1 con2 con3 con4 con5 ⟨by omega, by omega, by omega⟩
end Go.Proofs.Ytaojbmcdebkabaa
