/- Walk of the chapter of keys: the laws' first. -/
import Derived.Test.YtmeakhiiebeneaaGreatDoorKeyE
import Derived.Test.YtmeakhiiebeneaaGreatDoorLit
namespace Go.Proofs.YtmeakhiiebeneaaGreatDoor
open Go.RowKit

def litO (xs : List UInt8) (fr : Nat × Nat) : Obj := .cells (u8s xs).toArray 5 fr
theorem lit_readC (w : World) (xs : List UInt8) (n : Nat) (fr : Nat × Nat) (hn : xs.length = n) (hm : n ≤ maxLen) : RB (w.alloc (litO xs fr)) (some ⟨w.heap.size, 0, none⟩) n n xs :=
  RB.of_block xs n (heap_alloc_new w _) hn hm
theorem lit_small {n : Nat} (h : n ≤ 100) : n ≤ maxLen := by rw [maxLen_is]; omega

section
variable (w : World) (xs ys zs : List UInt8) (n m k : Nat) (f1 f2 f3 : Nat × Nat)
theorem lits1 (hx : xs.length = n) (h1 : n ≤ 100) : RB (w.alloc (litO xs f1)) (some ⟨w.heap.size, 0, none⟩) n n xs ∧ Below w.heap.size w (w.alloc (litO xs f1)) :=
  ⟨lit_readC w xs n f1 hx (lit_small h1), below1 _ _⟩
theorem lits2 (hx : xs.length = n) (hy : ys.length = m) (h1 : n ≤ 100) (h2 : m ≤ 100) :
    RB ((w.alloc (litO xs f1)).alloc (litO ys f2)) (some ⟨w.heap.size, 0, none⟩) n n xs ∧ RB ((w.alloc (litO xs f1)).alloc (litO ys f2)) (some ⟨w.heap.size + 1, 0, none⟩) m m ys ∧ Below w.heap.size w ((w.alloc (litO xs f1)).alloc (litO ys f2)) := by
  have a := lits1 w xs n f1 hx h1
  have b := lits1 (w.alloc (litO xs f1)) ys m f2 hy h2
  have e : (w.alloc (litO xs f1)).heap.size = w.heap.size + 1 := by simp
  refine ⟨a.1.below b.2, ?_, a.2.trans (b.2.mono a.2.size)⟩
  have := b.1
  rwa [e] at this
theorem lits3 (hx : xs.length = n) (hy : ys.length = m) (hz : zs.length = k) (h1 : n ≤ 100) (h2 : m ≤ 100) (h3 : k ≤ 100) :
    RB (((w.alloc (litO xs f1)).alloc (litO ys f2)).alloc (litO zs f3)) (some ⟨w.heap.size, 0, none⟩) n n xs ∧ RB (((w.alloc (litO xs f1)).alloc (litO ys f2)).alloc (litO zs f3)) (some ⟨w.heap.size + 1, 0, none⟩) m m ys ∧
      RB (((w.alloc (litO xs f1)).alloc (litO ys f2)).alloc (litO zs f3)) (some ⟨w.heap.size + 2, 0, none⟩) k k zs ∧ Below w.heap.size w (((w.alloc (litO xs f1)).alloc (litO ys f2)).alloc (litO zs f3)) := by
  have a := lits2 w xs ys n m f1 f2 hx hy h1 h2
  have b := lits1 ((w.alloc (litO xs f1)).alloc (litO ys f2)) zs k f3 hz h3
  have e : ((w.alloc (litO xs f1)).alloc (litO ys f2)).heap.size = w.heap.size + 2 := by simp
  refine ⟨a.1.below b.2, a.2.1.below b.2, ?_, a.2.2.trans (b.2.mono a.2.2.size)⟩
  have := b.1
  rwa [e] at this

theorem Compare_lits (hx : xs.length = n) (hy : ys.length = m) (h1 : n ≤ 100) (h2 : m ≤ 100) :
    Calls Tryz.prog 13 #[.slice (some ⟨w.heap.size, 0, none⟩) n n, .slice (some ⟨w.heap.size + 1, 0, none⟩) m m] ((w.alloc (litO xs f1)).alloc (litO ys f2)) fun e w' => e = .returned (.int .i64 (Key.cmpB xs ys)) ∧ Below w.heap.size w w' := by
  obtain ⟨a, b, c⟩ := lits2 w xs ys n m f1 f2 hx hy h1 h2
  refine (Compare_calls _ _ _ _ _ _ _ _ _ a b).mono ?_
  rintro e w' ⟨rfl, rfl⟩
  exact ⟨rfl, c⟩
theorem Common_lits (hx : xs.length = n) (hy : ys.length = m) (h1 : n ≤ 100) (h2 : m ≤ 100) :
    Calls Tryz.prog 15 #[.slice (some ⟨w.heap.size, 0, none⟩) n n, .slice (some ⟨w.heap.size + 1, 0, none⟩) m m] ((w.alloc (litO xs f1)).alloc (litO ys f2)) fun e w' => e = .returned (.int .i64 (Key.com xs ys : Nat)) ∧ Below w.heap.size w w' := by
  obtain ⟨a, b, c⟩ := lits2 w xs ys n m f1 f2 hx hy h1 h2
  refine (Common_below _ _ _ _ _ _ _ _ _ a b (by omega) (by omega)).mono ?_
  rintro e w' ⟨rfl, q⟩
  exact ⟨rfl, c.trans (q.mono c.size)⟩
theorem Separator_lits (hx : xs.length = n) (hy : ys.length = m) (h1 : n ≤ 100) (h2 : m ≤ 100) :
    Calls Tryz.prog 10 #[.slice (some ⟨w.heap.size, 0, none⟩) n n, .slice (some ⟨w.heap.size + 1, 0, none⟩) m m] ((w.alloc (litO xs f1)).alloc (litO ys f2)) fun e w' => ∃ A1 n1 c1 k, e = .returned (.tuple #[.slice A1 n1 c1, .int .i64 k]) ∧ SepPost w xs ys A1 n1 c1 k w' := by
  obtain ⟨a, b, c⟩ := lits2 w xs ys n m f1 f2 hx hy h1 h2
  refine (Separator_calls _ _ _ _ _ _ _ _ _ a b (by omega) (by omega)).mono ?_
  rintro e w' ⟨A1, n1, c1, k, rfl, q⟩
  exact ⟨A1, n1, c1, k, rfl, q.ok, q.no, c.trans (q.below.mono c.size)⟩
theorem Valid_lits (h1 : 1 ≤ n) (h2 : n ≤ 100) :
    Calls Tryz.prog 61 #[.slice (some ⟨w.heap.size, 0, none⟩) n n] (w.alloc (litO xs f1)) fun e w' => e = .returned (.bool true) ∧ Below w.heap.size w w' := by
  refine (Valid_calls _ _ _ _ true (decide_eq_true ⟨h1, by omega⟩).symm).mono ?_
  rintro e w' ⟨rfl, rfl⟩
  exact ⟨rfl, below1 _ _⟩
theorem Within_lits (hx : xs.length = n) (hy : ys.length = m) (hz : zs.length = k) (h1 : n ≤ 100) (h2 : m ≤ 100) (h3 : k ≤ 100) :
    Calls Tryz.prog 62 #[.slice (some ⟨w.heap.size, 0, none⟩) n n, .slice (some ⟨w.heap.size + 1, 0, none⟩) m m, .slice (some ⟨w.heap.size + 2, 0, none⟩) k k] (((w.alloc (litO xs f1)).alloc (litO ys f2)).alloc (litO zs f3)) fun e w' => e = .returned (.bool (within xs ys zs)) ∧ Below w.heap.size w w' := by
  obtain ⟨a, b, c, d⟩ := lits3 w xs ys zs n m k f1 f2 f3 hx hy hz h1 h2 h3
  refine (Within_calls _ _ _ _ _ _ _ _ _ _ _ _ _ a b c _ rfl).mono ?_
  rintro e w' ⟨rfl, rfl⟩
  exact ⟨rfl, d⟩
end

/-- Three slices of bytes in a new block. -/
theorem RM.three {w : World} {A0 A1 A2 : Option Addr} {n0 c0 n1 c1 n2 c2 : Nat} {xs ys zs : List UInt8} (hx : RB w A0 n0 c0 xs) (hy : RB w A1 n1 c1 ys) (hz : RB w A2 n2 c2 zs) :
    RM (w.alloc (.cells #[.slice A0 n0 c0, .slice A1 n1 c1, .slice A2 n2 c2] 40)) (some ⟨w.heap.size, 0, none⟩) 3 3 [.slice A0 n0 c0, .slice A1 n1 c1, .slice A2 n2 c2] [xs, ys, zs] := by
  have bl := below1 w (.cells #[.slice A0 n0 c0, .slice A1 n1 c1, .slice A2 n2 c2] 40)
  refine ⟨⟨rfl, Nat.le_refl _, lit_small (by omega), (fun e => by cases e), ?_⟩, rfl, ?_⟩
  · intro ad e j u hu
    cases e
    rw [Addr.add_lit, Nat.zero_add, cell_of_row _ _ j _ _ (0, 0) (heap_alloc_new w _)]
    simpa using hu
  · intro j x hj
    match j with
    | 0 => cases hj; exact ⟨_, _, _, rfl, hx.below bl⟩
    | 1 => cases hj; exact ⟨_, _, _, rfl, hy.below bl⟩
    | 2 => cases hj; exact ⟨_, _, _, rfl, hz.below bl⟩
    | j + 3 => simp at hj
theorem CommonAll_lits (w : World) (xs ys zs : List UInt8) (n m k : Nat) (f1 f2 f3 : Nat × Nat) (hx : xs.length = n) (hy : ys.length = m) (hz : zs.length = k) (h1 : n ≤ 100) (h2 : m ≤ 100) (h3 : k ≤ 100) :
    Calls Tryz.prog 14 #[.slice (some ⟨w.heap.size + 3, 0, none⟩) 3 3] ((((w.alloc (litO xs f1)).alloc (litO ys f2)).alloc (litO zs f3)).alloc (.cells #[.slice (some ⟨w.heap.size, 0, none⟩) n n, .slice (some ⟨w.heap.size + 1, 0, none⟩) m m, .slice (some ⟨w.heap.size + 2, 0, none⟩) k k] 40)) fun e w' => e = .returned (.int .i64 (Key.comAll [xs, ys, zs] : Nat)) ∧ Below w.heap.size w w' := by
  obtain ⟨a, b, c, d⟩ := lits3 w xs ys zs n m k f1 f2 f3 hx hy hz h1 h2 h3
  have r := RM.three a b c
  rw [show (((w.alloc (litO xs f1)).alloc (litO ys f2)).alloc (litO zs f3)).heap.size = w.heap.size + 3 from by simp] at r
  refine (CommonAll_calls _ _ _ _ _ _ r).mono ?_
  rintro e w' ⟨rfl, q⟩
  have d2 := d.trans ((below1 _ (.cells #[.slice (some ⟨w.heap.size, 0, none⟩) n n, .slice (some ⟨w.heap.size + 1, 0, none⟩) m m, .slice (some ⟨w.heap.size + 2, 0, none⟩) k k] 40)).mono d.size)
  exact ⟨rfl, d2.trans (q.mono d2.size)⟩

/-- the examples. -/
theorem ex1 : Key.cmpB [97, 98] [97, 98, 99] = -1 := by decide
theorem ex2 : Key.cmpB [98] [97, 98, 99] = 1 := by decide
theorem ex3 : Key.com [97, 98, 99] [97, 98, 100] = 2 := by decide
theorem ex4 : Key.comAll [[114, 97, 105, 110], [114, 97, 105, 115, 101], [114, 97, 110]] = 2 := by decide
theorem ex5 : Key.cmpB [114, 97, 105, 110] [114, 97, 105, 115, 101] = -1 := by decide
theorem ex6 : Key.com [114, 97, 105, 110] [114, 97, 105, 115, 101] = 3 := by decide
theorem ex7 : within [98] [97] [99] = true := by decide
theorem sep_ex {w w' : World} {A : Option Addr} {n c : Nat} {k : Int} (h : SepPost w [114, 97, 105, 110] [114, 97, 105, 115, 101] A n c k w') : k = 0 ∧ n = 4 ∧ RB w' A 4 c [114, 97, 105, 115] ∧ Below w.heap.size w w' := by
  obtain ⟨a, b, r⟩ := h.ok ex5
  rw [ex6] at b r
  subst b
  exact ⟨a, rfl, r, h.below⟩

set_option maxRecDepth 100000 in
set_option maxHeartbeats 2000000 in
theorem first_calls (w : World) :
    Calls Tryz.prog 8 #[] w fun e w' => e = .returned (.bool true) ∧ Below w.heap.size w w' := by
  have kc := fun (w : World) (C : Array Value) (n c g : Nat) (hg : g = w.heap.size) => Joins.run_convert_bytes_const_at (P := Tryz.prog) w 40 5 C n c g hg Tryz.underlying40 Tryz.underlying5
  go_enter Tryz.func8, Tryz.ntmps8
  go_wp2_with (first
    | (go_at_call 16; refine (num_calls _ _).mono ?_; rintro e w9 ⟨rfl, rfl⟩)
    | (go_at_call 62; refine (Within_lits w7 [98] [97] [99] 1 1 1 _ _ _ rfl rfl rfl (by omega) (by omega) (by omega)).mono ?_; rintro e w8 ⟨rfl, b8'⟩; rw [ex7]; have b8 := b7.trans (b8'.mono b7.size))
    | (go_at_call 61; refine (Valid_lits w6 [97] 1 _ (by omega) (by omega)).mono ?_; rintro e w7 ⟨rfl, b7'⟩; have b7 := b6.trans (b7'.mono b6.size))
    | (go_at_call 12; refine (SameBytes_calls _ _ _ _ _ _ _ _ _ (r5.below (below1 _ _)) (lit_readC w5 [114, 97, 105, 115] 4 _ rfl (lit_small (by omega))) true (by simp)).mono ?_; rintro e w6 ⟨rfl, q6⟩; have b6 : Below w.heap.size w w6 := (q6 ▸ b5.trans ((below1 w5 _).mono b5.size)); clear q6)
    | (go_at_call 10; refine (Separator_lits w4 [114, 97, 105, 110] [114, 97, 105, 115, 101] 4 5 _ _ rfl rfl (by omega) (by omega)).mono ?_; rintro e w5 ⟨A5, n5, c5, k5, rfl, q5⟩; obtain ⟨rfl, rfl, r5, b5'⟩ := sep_ex q5; have b5 := b4.trans (b5'.mono b4.size); clear q5)
    | (go_at_call 14; refine (CommonAll_lits w3 [114, 97, 105, 110] [114, 97, 105, 115, 101] [114, 97, 110] 4 5 3 _ _ _ rfl rfl rfl (by omega) (by omega) (by omega)).mono ?_; rintro e w4 ⟨rfl, b4'⟩; rw [ex4]; have b4 := b3.trans (b4'.mono b3.size))
    | (go_at_call 15; refine (Common_lits w2 [97, 98, 99] [97, 98, 100] 3 3 _ _ rfl rfl (by omega) (by omega)).mono ?_; rintro e w3 ⟨rfl, b3'⟩; rw [ex3]; have b3 := b2.trans (b3'.mono b2.size))
    | (go_at_call 13; refine (Compare_lits w1 [98] [97, 98, 99] 1 3 _ _ rfl rfl (by omega) (by omega)).mono ?_; rintro e w2 ⟨rfl, b2'⟩; rw [ex2]; have b2 := b1.trans (b2'.mono b1.size))
    | (go_at_call 13; refine (Compare_lits w [97, 98] [97, 98, 99] 2 3 _ _ rfl rfl (by omega) (by omega)).mono ?_; rintro e w1 ⟨rfl, b1⟩; rw [ex1]))
  go_ret
  exact ⟨rfl, b8⟩
end Go.Proofs.YtmeakhiiebeneaaGreatDoor
