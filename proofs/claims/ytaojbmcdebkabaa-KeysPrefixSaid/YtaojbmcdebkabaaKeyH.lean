/- The walks of the laws KeysPrefix, KeysBetween. -/
import Derived.Test.YtaojbmcdebkabaaKeyG
namespace Go.Proofs.Ytaojbmcdebkabaa
open Go.RowKit

/-- The plain law of KeysPrefix. -/
theorem prefix_law (a b c : List UInt8) (h : Key.cmpB a b ≤ 0) (k : Key.cmpB b c ≤ 0) :
    Key.comAll [a, b, c] = Key.com a c ∧ Key.com a c ≤ Key.com a b ∧ Key.com a c ≤ Key.com b c ∧ min (Key.com a b) (Key.com b c) = Key.com a c ∧ Key.com a c ≤ a.length ∧ Key.com a c ≤ b.length ∧ Key.com a c ≤ c.length := by
  have e := Key.com_three a b c h k
  have l1 := Key.com_le a c
  have l2 := Key.com_le' a b
  have l3 := Key.com_le' a c
  exact ⟨Key.comAll_three a b c h k, by omega, by omega, by omega, l1, by omega, l3⟩

set_option maxRecDepth 100000 in
set_option maxHeartbeats 2000000 in
theorem KeysPrefix_walk (A0 : Option Addr) (n0 c0 : Nat) (xs : List UInt8) (A1 : Option Addr) (n1 c1 : Nat) (ys : List UInt8) (A2 : Option Addr) (n2 c2 : Nat) (zs : List UInt8) (w : World)
    (hx : RB w A0 n0 c0 xs) (_hb0 : n0 ≤ 140737488351232) (hy : RB w A1 n1 c1 ys) (_hb1 : n1 ≤ 140737488351232) (hz : RB w A2 n2 c2 zs) (_hb2 : n2 ≤ 140737488351232) :
    Calls Try.prog 9 #[.slice A0 n0 c0, .slice A1 n1 c1, .slice A2 n2 c2] w fun e w' => e = .returned (.bool true) ∧ Below w.heap.size w w' := by
  have con1 : ∀ w1, Below w.heap.size w w1 → Calls Try.prog 11 #[.slice A0 n0 c0, .slice A1 n1 c1] w1 fun e w' => e = .returned (.int .i64 (Key.cmpB xs ys)) ∧ w1 = w' := fun w1 b => Compare_calls _ _ _ _ _ _ _ _ _ (hx.below b) (hy.below b)
  have con2 : ∀ w1, Below w.heap.size w w1 → Calls Try.prog 11 #[.slice A1 n1 c1, .slice A2 n2 c2] w1 fun e w' => e = .returned (.int .i64 (Key.cmpB ys zs)) ∧ w1 = w' := fun w1 b => Compare_calls _ _ _ _ _ _ _ _ _ (hy.below b) (hz.below b)
  have law := prefix_law xs ys zs
  obtain ⟨x, ex⟩ : ∃ x, Key.cmpB xs ys = x := ⟨_, rfl⟩
  obtain ⟨y, ey⟩ : ∃ y, Key.cmpB ys zs = y := ⟨_, rfl⟩
  rw [ex] at con1 law
  rw [ey] at con2 law
  clear ex ey
  by_cases hxy : 0 < x
  · go_enter Try.func9, Try.ntmps9
    go_wp2_with (first
      | (go_at_call 11; ((with_reducible refine (con1 _ b1).mono ?_); rintro e w2 ⟨rfl, rfl⟩))
      | (go_at_call 11; ((with_reducible refine (con2 _ b1).mono ?_); rintro e w2 ⟨rfl, rfl⟩))
      | (go_at_call 10; refine (first_calls _).mono ?_; rintro e w1 ⟨rfl, b1⟩))
    go_ret
    exact ⟨rfl, b1⟩
  by_cases hyz : 0 < y
  · go_enter Try.func9, Try.ntmps9
    go_wp2_with (first
      | (go_at_call 11; ((with_reducible refine (con1 _ b1).mono ?_); rintro e w2 ⟨rfl, rfl⟩))
      | (go_at_call 11; ((with_reducible refine (con2 _ b1).mono ?_); rintro e w2 ⟨rfl, rfl⟩))
      | (go_at_call 10; refine (first_calls _).mono ?_; rintro e w1 ⟨rfl, b1⟩))
    go_ret
    exact ⟨rfl, b1⟩
  obtain ⟨l1, l2, l3, l4, l5, l6, l7⟩ := law (by omega) (by omega)
  clear law
  have con3 : ∀ w1, Below w.heap.size w w1 → Calls Try.prog 13 #[.slice A0 n0 c0, .slice A2 n2 c2] w1 fun e w' => e = .returned (.int .i64 (Key.com xs zs : Nat)) ∧ Below w1.heap.size w1 w' := fun w1 b => Common_below' _ _ _ _ _ _ _ _ _ (hx.below b) (hz.below b)
  have con4 : ∀ w1, Below w.heap.size w w1 → Calls Try.prog 13 #[.slice A0 n0 c0, .slice A1 n1 c1] w1 fun e w' => e = .returned (.int .i64 (Key.com xs ys : Nat)) ∧ Below w1.heap.size w1 w' := fun w1 b => Common_below' _ _ _ _ _ _ _ _ _ (hx.below b) (hy.below b)
  have con5 : ∀ w1, Below w.heap.size w w1 → Calls Try.prog 13 #[.slice A1 n1 c1, .slice A2 n2 c2] w1 fun e w' => e = .returned (.int .i64 (Key.com ys zs : Nat)) ∧ Below w1.heap.size w1 w' := fun w1 b => Common_below' _ _ _ _ _ _ _ _ _ (hy.below b) (hz.below b)
  have con6 : ∀ w1, Below w.heap.size w w1 → Calls Try.prog 14 #[.slice (some ⟨w1.heap.size, 0, none⟩) 3 3] (w1.alloc (.cells #[.slice A0 n0 c0, .slice A1 n1 c1, .slice A2 n2 c2] 22)) fun e w' => e = .returned (.int .i64 (Key.com xs zs : Nat)) ∧ Below w1.heap.size w1 w' := fun w1 b => by
    rw [← l1]
    refine (CommonAll_calls _ _ _ _ _ _ (RM.three (hx.below b) (hy.below b) (hz.below b))).mono ?_
    rintro e w' ⟨rfl, q⟩
    have d := below1 w1 (.cells #[.slice A0 n0 c0, .slice A1 n1 c1, .slice A2 n2 c2] 22)
    exact ⟨rfl, d.trans (q.mono d.size)⟩
  rw [hx.len] at l5
  rw [hy.len] at l6
  rw [hz.len] at l7
  clear l1
  obtain ⟨n, hn⟩ : ∃ n, Key.com xs zs = n := ⟨_, rfl⟩
  obtain ⟨p, hp⟩ : ∃ p, Key.com xs ys = p := ⟨_, rfl⟩
  obtain ⟨q, hq⟩ : ∃ q, Key.com ys zs = q := ⟨_, rfl⟩
  rw [hn] at con3 con6 l2 l3 l4 l5 l6 l7
  rw [hp] at con4 l2 l4
  rw [hq] at con5 l3 l4
  clear hn hp hq
  have hmin := min_run2 p q n l4
  have i1 : (n : Int) ≤ (p : Int) := by omega
  have i2 : (n : Int) ≤ (q : Int) := by omega
  have i3 : (n : Int) ≤ (n0 : Int) := by omega
  have i4 : (n : Int) ≤ (n1 : Int) := by omega
  have i5 : (n : Int) ≤ (n2 : Int) := by omega
  have hxy' : x ≤ 0 := by omega
  have hyz' : y ≤ 0 := by omega
  clear hxy hyz l4
  go_enter Try.func9, Try.ntmps9
  go_wp2_with (first
    | (go_at_call 13; ((with_reducible refine (con5 _ b5).mono ?_); rintro e w6 ⟨rfl, b6'⟩; have b6 := b5.trans (b6'.mono b5.size)))
    | (go_at_call 13; ((with_reducible refine (con4 _ b4).mono ?_); rintro e w5 ⟨rfl, b5'⟩; have b5 := b4.trans (b5'.mono b4.size)))
    | (go_at_call 14; refine (con6 _ b3).mono ?_; rintro e w4 ⟨rfl, b4'⟩; have b4 := b3.trans (b4'.mono b3.size))
    | (go_at_call 13; ((with_reducible refine (con3 _ b1).mono ?_); rintro e w3 ⟨rfl, b3'⟩; have b3 := b1.trans (b3'.mono b1.size)))
    | (go_at_call 11; ((with_reducible refine (con1 _ b1).mono ?_); rintro e w2 ⟨rfl, rfl⟩))
    | (go_at_call 11; ((with_reducible refine (con2 _ b1).mono ?_); rintro e w2 ⟨rfl, rfl⟩))
    | (go_at_call 10; refine (first_calls _).mono ?_; rintro e w1 ⟨rfl, b1⟩))
  go_ret
  exact ⟨by rfl, b6⟩

set_option maxRecDepth 100000 in
set_option maxHeartbeats 2000000 in
theorem KeysBetween_walk (A0 : Option Addr) (n0 c0 : Nat) (xs : List UInt8) (A1 : Option Addr) (n1 c1 : Nat) (ys : List UInt8) (A2 : Option Addr) (n2 c2 : Nat) (zs : List UInt8) (w : World)
    (hx : RB w A0 n0 c0 xs) (_hb0 : n0 ≤ 140737488351232) (hy : RB w A1 n1 c1 ys) (_hb1 : n1 ≤ 140737488351232) (hz : RB w A2 n2 c2 zs) (_hb2 : n2 ≤ 140737488351232) :
    Calls Try.prog 8 #[.slice A0 n0 c0, .slice A1 n1 c1, .slice A2 n2 c2] w fun e w' => e = .returned (.bool true) ∧ Below w.heap.size w w' := by
  by_cases hlt : Key.cmpB xs ys = -1
  case neg =>
    have hge : 0 ≤ Key.cmpB xs ys := by have := Key.cmpB_three xs ys; omega
    obtain ⟨x, ex⟩ : ∃ x, Key.cmpB xs ys = x := ⟨_, rfl⟩
    rw [ex] at hge
    have EX := hideIt ex
    clear ex
    go_enter Try.func8, Try.ntmps8
    go_wp2_with (first
      | (go_at_call 20; refine (num_calls _ _).mono ?_; rintro e w9 ⟨rfl, rfl⟩)
      | (go_at_call 17; refine (Separator_calls _ _ _ _ _ _ _ _ _ (hx.below b1) (hy.below b1) (by omega) (by omega)).mono ?_; rintro e w2 ⟨A2', n2', c2', k2, rfl, p2⟩; obtain ⟨rfl, rfl, r2⟩ := p2.no hlt; have b2 := b1.trans (p2.below.mono b1.size))
      | (go_at_call 11; refine (Compare_calls _ _ _ _ _ _ _ _ _ (hx.below b1) (hy.below b1)).mono ?_; rintro e w2 ⟨rfl, rfl⟩; rw [EX.out])
      | (go_at_call 10; refine (first_calls _).mono ?_; rintro e w1 ⟨rfl, b1⟩))
    go_ret
    exact ⟨rfl, b2⟩
  obtain ⟨l1, l2, l3, l4⟩ := Key.sep xs ys hlt
  rw [hy.len] at l1
  obtain ⟨n, hn⟩ : ∃ n, Key.com xs ys + 1 = n := ⟨_, rfl⟩
  have ok : ∀ {w1 w2 : World} {A : Option Addr} {m c : Nat} {k : Int}, SepPost w1 xs ys A m c k w2 → k = 0 ∧ n = m ∧ RB w2 A n c (ys.take n) ∧ Below w1.heap.size w1 w2 := by
    intro w1 w2 A m c k q
    obtain ⟨a, b, r⟩ := q.ok hlt
    rw [hn] at b r
    subst b
    exact ⟨a, rfl, r, q.below⟩
  rw [hn] at l2 l3 l4
  have ln : n ≤ n1 := by omega
  have n01 : 1 ≤ n := by omega
  clear hn l1
  have lc := RC.le hy
  have m2 := hz.len
  have l5 := l4 zs
  rw [m2] at l5
  clear l4
  have con1 : ∀ w1, Below w.heap.size w w1 → Calls Try.prog 11 #[.slice A0 n0 c0, .slice A1 n1 c1] w1 fun e w' => e = .returned (.int .i64 (-1)) ∧ w1 = w' := fun w1 b => by rw [← hlt]; exact Compare_calls _ _ _ _ _ _ _ _ _ (hx.below b) (hy.below b)
  have con2 : ∀ w1 A c, Below w.heap.size w w1 → RB w1 A n c (ys.take n) → Calls Try.prog 11 #[.slice A0 n0 c0, .slice A n c] w1 fun e w' => e = .returned (.int .i64 (-1)) ∧ w1 = w' := fun w1 A c b r => by rw [← l2]; exact Compare_calls _ _ _ _ _ _ _ _ _ (hx.below b) r
  have con3 : ∀ w1 A c, Below w.heap.size w w1 → RB w1 A n c (ys.take n) → Calls Try.prog 11 #[.slice A n c, .slice A1 n1 c1] w1 fun e w' => e = .returned (.int .i64 (Key.cmpB (ys.take n) ys)) ∧ w1 = w' := fun w1 A c b r => Compare_calls _ _ _ _ _ _ _ _ _ r (hy.below b)
  have con4 : ∀ w1, Below w.heap.size w w1 → Calls Try.prog 11 #[.slice A0 n0 c0, .slice A2 n2 c2] w1 fun e w' => e = .returned (.int .i64 (Key.cmpB xs zs)) ∧ w1 = w' := fun w1 b => Compare_calls _ _ _ _ _ _ _ _ _ (hx.below b) (hz.below b)
  have con5 : ∀ w1, Below w.heap.size w w1 → Calls Try.prog 11 #[.slice A2 n2 c2, .slice A1 n1 c1] w1 fun e w' => e = .returned (.int .i64 (Key.cmpB zs ys)) ∧ w1 = w' := fun w1 b => Compare_calls _ _ _ _ _ _ _ _ _ (hz.below b) (hy.below b)
  obtain ⟨x, ex⟩ : ∃ x, Key.cmpB (ys.take n) ys = x := ⟨_, rfl⟩
  obtain ⟨y, ey⟩ : ∃ y, Key.cmpB xs zs = y := ⟨_, rfl⟩
  obtain ⟨z, ez⟩ : ∃ z, Key.cmpB zs ys = z := ⟨_, rfl⟩
  rw [ex] at con3 l3
  rw [ey] at con4 l5
  rw [ez] at con5 l5
  obtain ⟨ad1, rfl⟩ := some_of hy (by omega)
  have ln' : (n : Int) ≤ (n1 : Int) := by omega
  have M2 := hideIt m2
  clear l2 ex ey ez m2 n01
  by_cases hs : n2 < n
  · have hs' : (n2 : Int) < (n : Int) := by omega
    rcases l5 hs with l6 | l6
    · clear l5
      go_enter Try.func8, Try.ntmps8
      go_wp2_with (first
      | (go_at_call 11; ((with_reducible refine (con5 _ b2).mono ?_); rintro e w2 ⟨rfl, rfl⟩))
      | (go_at_call 11; ((with_reducible refine (con4 _ b2).mono ?_); rintro e w2 ⟨rfl, rfl⟩))
      | (go_at_call 19; refine (SameBytes_calls _ _ _ _ _ _ _ _ _ r2 ((hy.below b2).take n ln) true (by simp)).mono ?_; rintro e w9 ⟨rfl, rfl⟩)
      | (go_at_call 11; ((with_reducible refine (con3 _ _ _ b2 r2).mono ?_); rintro e w2 ⟨rfl, rfl⟩))
      | (go_at_call 11; ((with_reducible refine (con2 _ _ _ b2 r2).mono ?_); rintro e w2 ⟨rfl, rfl⟩))
      | (go_at_call 20; refine (num_calls _ _).mono ?_; rintro e w9 ⟨rfl, rfl⟩)
      | (go_at_call 17; refine (Separator_calls _ _ _ _ _ _ _ _ _ (hx.below b1) (hy.below b1) (by omega) (by omega)).mono ?_; rintro e w2 ⟨A2', n2', c2', k2, rfl, p2⟩; obtain ⟨rfl, rfl, r2, b2'⟩ := ok p2; have b2 := b1.trans (b2'.mono b1.size); clear p2)
      | (go_at_call 11; ((with_reducible refine (con1 _ b1).mono ?_); rintro e w2 ⟨rfl, rfl⟩))
      | (go_at_call 10; refine (first_calls _).mono ?_; rintro e w1 ⟨rfl, b1⟩))
      go_ret
      exact ⟨rfl, b2⟩
    · clear l5
      go_enter Try.func8, Try.ntmps8
      go_wp2_with (first
      | (go_at_call 11; ((with_reducible refine (con5 _ b2).mono ?_); rintro e w2 ⟨rfl, rfl⟩))
      | (go_at_call 11; ((with_reducible refine (con4 _ b2).mono ?_); rintro e w2 ⟨rfl, rfl⟩))
      | (go_at_call 19; refine (SameBytes_calls _ _ _ _ _ _ _ _ _ r2 ((hy.below b2).take n ln) true (by simp)).mono ?_; rintro e w9 ⟨rfl, rfl⟩)
      | (go_at_call 11; ((with_reducible refine (con3 _ _ _ b2 r2).mono ?_); rintro e w2 ⟨rfl, rfl⟩))
      | (go_at_call 11; ((with_reducible refine (con2 _ _ _ b2 r2).mono ?_); rintro e w2 ⟨rfl, rfl⟩))
      | (go_at_call 20; refine (num_calls _ _).mono ?_; rintro e w9 ⟨rfl, rfl⟩)
      | (go_at_call 17; refine (Separator_calls _ _ _ _ _ _ _ _ _ (hx.below b1) (hy.below b1) (by omega) (by omega)).mono ?_; rintro e w2 ⟨A2', n2', c2', k2, rfl, p2⟩; obtain ⟨rfl, rfl, r2, b2'⟩ := ok p2; have b2 := b1.trans (b2'.mono b1.size); clear p2)
      | (go_at_call 11; ((with_reducible refine (con1 _ b1).mono ?_); rintro e w2 ⟨rfl, rfl⟩))
      | (go_at_call 10; refine (first_calls _).mono ?_; rintro e w1 ⟨rfl, b1⟩))
      all_goals go_ret
      all_goals exact ⟨by rfl, b2⟩
  · have hs' : (n : Int) ≤ (n2 : Int) := by omega
    clear l5
    go_enter Try.func8, Try.ntmps8
    go_wp2_with (first
      | (go_at_call 11; ((with_reducible refine (con5 _ b2).mono ?_); rintro e w2 ⟨rfl, rfl⟩))
      | (go_at_call 11; ((with_reducible refine (con4 _ b2).mono ?_); rintro e w2 ⟨rfl, rfl⟩))
      | (go_at_call 19; refine (SameBytes_calls _ _ _ _ _ _ _ _ _ r2 ((hy.below b2).take n ln) true (by simp)).mono ?_; rintro e w9 ⟨rfl, rfl⟩)
      | (go_at_call 11; ((with_reducible refine (con3 _ _ _ b2 r2).mono ?_); rintro e w2 ⟨rfl, rfl⟩))
      | (go_at_call 11; ((with_reducible refine (con2 _ _ _ b2 r2).mono ?_); rintro e w2 ⟨rfl, rfl⟩))
      | (go_at_call 20; refine (num_calls _ _).mono ?_; rintro e w9 ⟨rfl, rfl⟩)
      | (go_at_call 17; refine (Separator_calls _ _ _ _ _ _ _ _ _ (hx.below b1) (hy.below b1) (by omega) (by omega)).mono ?_; rintro e w2 ⟨A2', n2', c2', k2, rfl, p2⟩; obtain ⟨rfl, rfl, r2, b2'⟩ := ok p2; have b2 := b1.trans (b2'.mono b1.size); clear p2)
      | (go_at_call 11; ((with_reducible refine (con1 _ b1).mono ?_); rintro e w2 ⟨rfl, rfl⟩))
      | (go_at_call 10; refine (first_calls _).mono ?_; rintro e w1 ⟨rfl, b1⟩))
    go_ret
    exact ⟨rfl, b2⟩
end Go.Proofs.Ytaojbmcdebkabaa
