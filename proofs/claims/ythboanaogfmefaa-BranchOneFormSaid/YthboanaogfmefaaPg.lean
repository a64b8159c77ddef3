/- What branch.read computes (readS); branch.getKid. -/
import Derived.Test.YthboanaogfmefaaPc
import Derived.Test.YthboanaogfmefaaWo
import Derived.Test.YthboanaogfmefaaWg8
import Derived.Test.YthboanaogfmefaaWg16
import Derived.Test.YthboanaogfmefaaWg32
namespace Go.Proofs.Ythboanaogfmefaa
open Go.RowKit

def kidS (B : List UInt8) (at_ : Nat) (e : Int) : (Nat × Nat) × Nat × Int :=
  (((numS B at_ e 4).1, (numS B (numS B at_ e 4).2.1 (numS B at_ e 4).2.2 4).1), (numS B (numS B at_ e 4).2.1 (numS B at_ e 4).2.2 4).2)
def ki (k : Nat × Nat) : Int × Int := ((k.1 : Int), (k.2 : Int))
def strS (B : List UInt8) (at_ : Nat) (e : Int) : List UInt8 × Nat × Int := bytesS B (vS B at_ e).2.1 (vS B at_ e).2.2 ((min (vS B at_ e).1 4092 : Nat) : Int)
def sepsS (B pre : List UInt8) : Nat → Nat → Int → List (List UInt8) × List (Int × Int)
  | 0, _, _ => ([], [])
  | k + 1, at_, e =>
    if leftS B at_ e = 0 then ([], []) else
      ((pre ++ (strS B at_ e).1) :: (sepsS B pre k (kidS B (strS B at_ e).2.1 (strS B at_ e).2.2).2.1 (kidS B (strS B at_ e).2.1 (strS B at_ e).2.2).2.2).1,
        ki (kidS B (strS B at_ e).2.1 (strS B at_ e).2.2).1 :: (sepsS B pre k (kidS B (strS B at_ e).2.1 (strS B at_ e).2.2).2.1 (kidS B (strS B at_ e).2.1 (strS B at_ e).2.2).2.2).2)
theorem strS_len (B : List UInt8) (at_ : Nat) (e : Int) : (strS B at_ e).1.length ≤ 4092 := by
  unfold strS bytesS
  split
  · rw [List.length_take]; omega
  · exact Nat.zero_le _
theorem sepsS_few (B pre : List UInt8) (hp : pre.length ≤ 4092) (k : Nat) (at_ : Nat) (e : Int) : (sepsS B pre k at_ e).1.length ≤ k ∧ ∀ x ∈ (sepsS B pre k at_ e).1, x.length ≤ 10000 := by
  induction k generalizing at_ e with
  | zero => exact ⟨Nat.le_refl _, fun x hx => by cases hx⟩
  | succ k ih =>
    rw [sepsS]
    split
    · exact ⟨Nat.zero_le _, fun x hx => by cases hx⟩
    · obtain ⟨h1, h2⟩ := ih (kidS B (strS B at_ e).2.1 (strS B at_ e).2.2).2.1 (kidS B (strS B at_ e).2.1 (strS B at_ e).2.2).2.2
      refine ⟨by rw [List.length_cons]; omega, fun x hx => ?_⟩
      rcases List.mem_cons.1 hx with rfl | hx
      · have := strS_len B at_ e
        rw [List.length_append]; omega
      · exact h2 x hx
def kindS (B : List UInt8) : Nat × Nat × Int := numS B 0 0 1
def levS (B : List UInt8) : Nat × Nat × Int := numS B (kindS B).2.1 (kindS B).2.2 1
def cntS (B : List UInt8) : Nat × Nat × Int := numS B (levS B).2.1 (levS B).2.2 2
def preS (B : List UInt8) : List UInt8 × Nat × Int := strS B (cntS B).2.1 (cntS B).2.2
def skipS (B : List UInt8) : List UInt8 × Nat × Int := bytesS B (preS B).2.1 (preS B).2.2 (2 * (((cntS B).1 - 1 : Nat) : Int))
def fstS (B : List UInt8) : (Nat × Nat) × Nat × Int := kidS B (skipS B).2.1 (skipS B).2.2
def restS (B : List UInt8) : List (List UInt8) × List (Int × Int) := sepsS B (preS B).1 ((cntS B).1 - 1) (fstS B).2.1 (fstS B).2.2
theorem read_few (B : List UInt8) : Few (restS B).1.length (restS B).1 := by
  have h := sepsS_few B (preS B).1 (strS_len _ _ _) ((cntS B).1 - 1) (fstS B).2.1 (fstS B).2.2
  have h2 := numS_lt B (levS B).2.1 (levS B).2.2 2
  refine ⟨?_, h.2⟩
  have h1 := h.1
  have : (cntS B).1 < 65536 := h2
  unfold restS
  omega

theorem kid_cells {w : World} {g : Nat} {x y : Int} (h : OC w 37 2 g 1 1 [.int .i64 x, .int .i64 y]) : w.cell? ⟨g, 0, none⟩ = some (.int .i64 x) ∧ w.cell? ⟨g, 1, none⟩ = some (.int .i64 y) := by
  have hr := OC.read h
  exact ⟨RC.cell hr ⟨g, 0, none⟩ rfl 0 _ rfl, RC.cell hr ⟨g, 0, none⟩ rfl 1 _ rfl⟩
theorem info_kid2 : (Try.prog.info? 37).map (·.size) = some 2 := by kernel_rfl
theorem ret_kid {fn : Func} {R : Ending → World → Prop} {a : Act} {w : World} {g : Nat} {x y : Value} (q : OC w 37 2 g 1 1 [x, y]) (hres : fn.results = #[.cell 2 37]) (h2 : a.tmps.getD 2 undef = .pointer (some ⟨g, 0, none⟩)) (hd : a.defers = [])
    (hR : R (.returned (.agg #[x, y])) w) : bodyPost Try.prog fn R .ret a w := by
  obtain ⟨hl, cur, hg, r1, r2, r3, r4⟩ := OC.block q
  have e : cur = #[x, y] := by
    apply Array.ext'
    rw [List.take_of_length_le (by rw [Array.length_toList, r3]; exact Nat.le_refl _)] at r4
    exact r4
  subst e
  exact bodyPost_ret (results_cell_row hres _ _ g _ _ _ _ h2 hg Try.underlying37 rfl info_kid2) hd hR
theorem num4 (B : List UInt8) (at_ : Nat) (e : Int) : ∃ x a f, numS B at_ e 4 = (x, a, f) ∧ x < 4294967296 := ⟨_, _, _, rfl, numS_lt B at_ e 4⟩
set_option maxRecDepth 100000 in
set_option maxHeartbeats 1000000 in
theorem getKid_calls (r : Nat) (B : List UInt8) (at_ : Nat) (er : Int) (w : World) (h : Rd w r B at_ er) :
    Calls Try.prog 68 #[.pointer (some ⟨r, 0, none⟩)] w fun en w' => en = .returned (.agg #[.int .i64 (ki (kidS B at_ er).1).1, .int .i64 (ki (kidS B at_ er).1).2]) ∧ Rd w' r B (kidS B at_ er).2.1 (kidS B at_ er).2.2 ∧ w.grownBy w' (some r) := by
  have G1 := fun W q => Get32_any r B at_ er W q
  obtain ⟨x, a, f, e1, hx⟩ := num4 B at_ er
  obtain ⟨y, a2, f2, e2, hy⟩ := num4 B a f
  have G2 := fun W q => Get32_any r B a f W q
  unfold kidS ki
  rw [e1]
  simp only
  rw [e2]
  rw [e1] at G1
  rw [e2] at G2
  simp only at G1 G2 ⊢
  clear e1 e2
  have ba := below1 w (.cells #[.int .i64 0, .int .i64 0] 37)
  have h0 := h.below ba
  have hrl := h.lt
  have ok : OC (w.alloc (.cells #[.int .i64 0, .int .i64 0] 37)) 37 2 w.heap.size 1 1 [.int .i64 0, .int .i64 0] := OC.mk rfl _ (heap_alloc_new w _) (Nat.le_refl _) (by rw [maxLen_is]; omega) rfl rfl
  have k0 := World.grownBy_alloc w (.cells #[.int .i64 0, .int .i64 0] 37) (some r)
  go_enter Try.func68, Try.ntmps68
  go_upto_region 2 with (go_at_call 76; refine (G1 _ h0).mono ?_; rintro en w1 ⟨rfl, d1, k1⟩)
  have ne : some w.heap.size ≠ some r := by simp only [ne_eq, Option.some.injEq]; omega
  have ok1 := ok.same (Sm.of_grown k1 ok.lt ne)
  clear ok h0 ba
  go_wp2_with (go_at_call 76; refine (G2 _ d1).mono ?_; rintro en w2 ⟨rfl, d2, k2⟩; have ok2 := ok1.same (Sm.of_grown k2 ok1.lt ne); have f0 := ok2.free 0; have f1 := ok2.free 1; obtain ⟨c0, c1⟩ := kid_cells ok2)
  have ok3 := (ok2.set 0 (.int .i64 (x : Int))).set 1 (.int .i64 (y : Int))
  have k4 := (grownBy_set w2 w.heap.size 0 (.int .i64 (x : Int))).trans (grownBy_set _ w.heap.size 1 (.int .i64 (y : Int)))
  have d4 := d2.above k4 hrl
  refine ret_kid ok3 rfl rfl rfl ⟨rfl, d4, ?_⟩
  have kk := (k0.trans k1).trans k2
  exact ⟨k4.os.trans kk.os, k4.tape.trans kk.tape, k4.output.trans kk.output, Nat.le_trans kk.size k4.size, fun j hj hne => (k4.block j (Nat.lt_of_lt_of_le hj kk.size) (by simp only [ne_eq, Option.some.injEq]; omega)).trans (kk.block j hj hne)⟩
end Go.Proofs.Ythboanaogfmefaa
