/- meta.Decode: the first test. -/
import Derived.Test.YtenalocpmigppaaGreatDoorMh
import Derived.Laws.Cover3
namespace Go.Proofs.YtenalocpmigppaaGreatDoor
open Go.RowKit

/-- '==' of two arrays of four bytes, given by their numbers. -/
theorem run_equal_four (a b d f a' b' d' f' : Nat) (w : World) :
    (Op.equalIn 10000 96 (.agg #[.int .u8 (a : Int), .int .u8 (b : Int), .int .u8 (d : Int), .int .u8 (f : Int)]) (.agg #[.int .u8 (a' : Int), .int .u8 (b' : Int), .int .u8 (d' : Int), .int .u8 (f' : Int)])).run Tryz.prog w = .ok (decide (a = a' ∧ b = b' ∧ d = d' ∧ f = f')) w := by
  have hp : ∀ (i : Nat) (x0 x1 x2 x3 : Value), i < 4 → (part 5 #[x0, x1, x2, x3] i).run Tryz.prog w = .ok ([x0, x1, x2, x3].getD i undef) w := by
    intro i x0 x1 x2 x3 hi
    obtain rfl | rfl | rfl | rfl : i = 0 ∨ i = 1 ∨ i = 2 ∨ i = 3 := by omega
    all_goals simp [part, go_sem]
  have he : ∀ (x y : Nat), (Op.equalIn 9999 5 (.int .u8 (x : Int)) (.int .u8 (y : Int))).run Tryz.prog w = .ok (decide (x = y)) w := by
    intro x y
    rw [run_equalIn_int w 9998 5 .u8 .u8 _ _ Tryz.underlying5]
    congr 1
    rw [Bool.eq_iff_iff]; simp
    omega
  rw [show (10000 : Nat) = 9999 + 1 from rfl, Op.equalIn]
  simp only [Sem.run_bind, run_underlying Tryz.underlying96, Result.andThen_ok]
  have hs : (sizeOf 5).run Tryz.prog w = .ok 1 w := by kernel_rfl
  rw [hs]
  simp only [Result.andThen_ok]
  simp only [Std.Legacy.Range.forIn_eq_forIn_range', Std.Legacy.Range.size, Nat.sub_zero, Nat.add_one_sub_one, Nat.div_one, List.range'_succ, List.range'_zero, List.forIn_cons, List.forIn_nil, Nat.mul_one, Nat.zero_add, Nat.reduceAdd]
  have p0 := fun x0 x1 x2 x3 => hp 0 x0 x1 x2 x3 (by decide)
  have p1 := fun x0 x1 x2 x3 => hp 1 x0 x1 x2 x3 (by decide)
  have p2 := fun x0 x1 x2 x3 => hp 2 x0 x1 x2 x3 (by decide)
  have p3 := fun x0 x1 x2 x3 => hp 3 x0 x1 x2 x3 (by decide)
  by_cases h0 : a = a'
  · by_cases h1 : b = b'
    · by_cases h2 : d = d'
      · by_cases h3 : f = f'
        · simp [p0, p1, p2, p3, he, h0, h1, h2, h3]
        · simp [p0, p1, p2, p3, he, h0, h1, h2, h3]
      · simp [p0, p1, p2, he, h0, h1, h2]
    · simp [p0, p1, he, h0, h1]
  · simp [p0, he, h0]

theorem list4 (l : List UInt8) (h : l.length = 4) : ∃ a b d f, l = [a, b, d, f] := by
  match l, h with
  | [a, b, d, f], _ => exact ⟨a, b, d, f, rfl⟩

def zeroHead : Value := .agg #[.int .i64 0, .int .i64 0, .int .i64 0, .int .i64 0, .int .i64 0, .int .i64 0, .int .i64 0]

/-- A head in a block of its own. -/
def HC (w : World) (g : Nat) (v n r h k f e : Int) : Prop := OC w 66 1 g 7 7 [.int .i64 v, .int .i64 n, .int .i64 r, .int .i64 h, .int .i64 k, .int .i64 f, .int .i64 e]
theorem HC.at_ {w : World} {g : Nat} {v n r h k f e : Int} (q : HC w g v n r h k f e) : HdAt w g v n r h k f e :=
  ⟨OC.cell q 0 _ rfl, OC.cell q 1 _ rfl, OC.cell q 2 _ rfl, OC.cell q 3 _ rfl, OC.cell q 4 _ rfl, OC.cell q 5 _ rfl, OC.cell q 6 _ rfl, OC.lt q⟩
theorem HC.new (w : World) (v n r h k f e : Int) : HC (w.alloc (.cells #[.int .i64 v, .int .i64 n, .int .i64 r, .int .i64 h, .int .i64 k, .int .i64 f, .int .i64 e] 66)) w.heap.size v n r h k f e :=
  OC.mk rfl _ (heap_alloc_new w _) (Nat.le_refl _) (by rw [maxLen_is]; omega) rfl rfl
theorem HC.load {w : World} {g : Nat} {v n r h k f e : Int} (q : HC w g v n r h k f e) :
    (loadVar 66 ⟨g, 0, none⟩).run Tryz.prog w = .ok (.agg #[.int .i64 v, .int .i64 n, .int .i64 r, .int .i64 h, .int .i64 k, .int .i64 f, .int .i64 e]) w := by
  obtain ⟨c0, c1, c2, c3, c4, c5, c6, _⟩ := q.at_
  go_simp
/-- A return with a head in the result's variable and a number. -/
theorem ret_head {fn : Func} {R : Ending → World → Prop} {a : Act} {w : World} {g : Nat} {v n r h k f e : Int} {c : Int} (q : HC w g v n r h k f e)
    (hres : fn.results = #[.cell 2 66, .tmp 3]) (h2 : a.tmps.getD 2 undef = .pointer (some ⟨g, 0, none⟩)) (h3 : a.tmps.getD 3 undef = .int .i64 c) (hd : a.defers = [])
    (hR : R (.returned (.tuple #[.agg #[.int .i64 v, .int .i64 n, .int .i64 r, .int .i64 h, .int .i64 k, .int .i64 f, .int .i64 e], .int .i64 c])) w) : bodyPost Tryz.prog fn R .ret a w := by
  refine bodyPost_ret (v := .tuple #[.agg #[.int .i64 v, .int .i64 n, .int .i64 r, .int .i64 h, .int .i64 k, .int .i64 f, .int .i64 e], .int .i64 c]) ?_ hd hR
  rw [results_cell_tmp hres, h2, h3]
  simp [asAddr, Result.andThen, q.load]
theorem HC.below {w w' : World} {g : Nat} {v n r h k f e : Int} (q : HC w g v n r h k f e) (b : Below w.heap.size w w') : HC w' g v n r h k f e := OC.below q b
theorem HC.same {w w' : World} {g : Nat} {v n r h k f e : Int} (q : HC w g v n r h k f e) (b : Sm w w' g) : HC w' g v n r h k f e := OC.same q b
theorem HC.lt {w : World} {g : Nat} {v n r h k f e : Int} (q : HC w g v n r h k f e) : g < w.heap.size := OC.lt q
/-- all seven numbers written anew. -/
def put7 (w : World) (g : Nat) (v n r h k f e : Int) : World := ((((((w.setCell ⟨g, 0, none⟩ (.int .i64 v)).setCell ⟨g, 1, none⟩ (.int .i64 n)).setCell ⟨g, 2, none⟩ (.int .i64 r)).setCell ⟨g, 3, none⟩ (.int .i64 h)).setCell ⟨g, 4, none⟩ (.int .i64 k)).setCell ⟨g, 5, none⟩ (.int .i64 f)).setCell ⟨g, 6, none⟩ (.int .i64 e)
theorem HC.put7 {w : World} {g : Nat} {v n r h k f e : Int} (q : HC w g v n r h k f e) (v' n' r' h' k' f' e' : Int) : HC (put7 w g v' n' r' h' k' f' e') g v' n' r' h' k' f' e' :=
  (((((((OC.set q 0 (.int .i64 v')).set 1 (.int .i64 n')).set 2 (.int .i64 r')).set 3 (.int .i64 h')).set 4 (.int .i64 k')).set 5 (.int .i64 f')).set 6 (.int .i64 e'))
theorem put7_grown (w : World) (g : Nat) (v n r h k f e : Int) : w.grownBy (put7 w g v n r h k f e) (some g) :=
  (((((((grownBy_set w g 0 _).trans (grownBy_set _ g 1 _)).trans (grownBy_set _ g 2 _)).trans (grownBy_set _ g 3 _)).trans (grownBy_set _ g 4 _)).trans (grownBy_set _ g 5 _)).trans (grownBy_set _ g 6 _))
set_option maxRecDepth 100000 in
set_option maxHeartbeats 4000000 in
theorem Decode_len (A : Option Addr) (n c : Nat) (w : World) (hn : n ≠ 4092) :
    Calls Tryz.prog 35 #[.slice A n c] w fun en w' => en = .returned (.tuple #[zeroHead, .int .i64 70]) ∧ Below w.heap.size w w' := by
  have h1 : ((n : Int) != 4092) = true := by rw [bne_iff_ne]; omega
  go_enter Tryz.func35, Tryz.ntmps35
  go_wp2
  go_quiet (fail)
  go_wp2
  refine ret_head (g := w.heap.size) (v := 0) (n := 0) (r := 0) (h := 0) (k := 0) (f := 0) (e := 0) ?_ rfl rfl rfl rfl ⟨rfl, ?_⟩
  · exact ((HC.new w 0 0 0 0 0 0 0).below (below_drewN (Below.refl _ _) nq)).put7 0 0 0 0 0 0 0
  · exact (below_drewN (below1 w _) nq).grown (put7_grown _ w.heap.size 0 0 0 0 0 0 0) (by simp) (by simp)

/-- Two marks: what the first test reads of a body of the right length. -/
structure Marked (w : World) (ad : Addr) (a b d f a' b' d' f' : UInt8) : Prop where
  c0 : w.cell? ad = some (.int .u8 (a.toNat : Int))
  c1 : w.cell? ⟨ad.block, ad.off + 1, none⟩ = some (.int .u8 (b.toNat : Int))
  c2 : w.cell? ⟨ad.block, ad.off + 2, none⟩ = some (.int .u8 (d.toNat : Int))
  c3 : w.cell? ⟨ad.block, ad.off + 3, none⟩ = some (.int .u8 (f.toNat : Int))
  e0 : w.cell? ⟨ad.block, ad.off + (4088 + 0), none⟩ = some (.int .u8 (a'.toNat : Int))
  e1 : w.cell? ⟨ad.block, ad.off + (4088 + 1), none⟩ = some (.int .u8 (b'.toNat : Int))
  e2 : w.cell? ⟨ad.block, ad.off + (4088 + 2), none⟩ = some (.int .u8 (d'.toNat : Int))
  e3 : w.cell? ⟨ad.block, ad.off + (4088 + 3), none⟩ = some (.int .u8 (f'.toNat : Int))

set_option maxRecDepth 100000 in
set_option maxHeartbeats 4000000 in
theorem Decode_begin (ad : Addr) (c : Nat) (w : World) (a b d f a' b' d' f' : UInt8) (hq : Marked w ad a b d f a' b' d' f') (hlt : ad.block < w.heap.size) (hc : 4092 ≤ c) (hM : Marks w) (hb : decide (a.toNat = 5 ∧ b.toNat = 99 ∧ d.toNat = 111 ∧ f.toNat = 112) = false) :
    Calls Tryz.prog 35 #[.slice (some ad) 4092 c] w fun en w' => en = .returned (.tuple #[zeroHead, .int .i64 70]) ∧ Below w.heap.size w w' := by
  have haa : ∀ (W : World) (m : Nat), (Instr.arrayAt 96 (.slice (some ad) 4 m)).run Tryz.prog W = .ok (.pointer (some ad)) W := fun W m => run_arrayAt (P := Tryz.prog) (w := W) 96 5 4 _ 4 _ Tryz.underlying96 (Nat.le_refl _)
  have heq : ∀ W : World, (Op.equalIn 10000 96 (.agg #[.int .u8 (a.toNat : Int), .int .u8 (b.toNat : Int), .int .u8 (d.toNat : Int), .int .u8 (f.toNat : Int)]) (.agg #[.int .u8 5, .int .u8 99, .int .u8 111, .int .u8 112])).run Tryz.prog W = .ok false W := by
    intro W
    have := run_equal_four a.toNat b.toNat d.toNat f.toNat 5 99 111 112 W
    rw [hb] at this
    exact this
  have hb0 := below1 w (.cells #[.int .i64 0, .int .i64 0, .int .i64 0, .int .i64 0, .int .i64 0, .int .i64 0, .int .i64 0] 66)
  have hC := HC.new w 0 0 0 0 0 0 0
  obtain ⟨k0, k1, k2, k3, k4, k5, k6, k7⟩ := hM.below hb0
  obtain ⟨c0, c1, c2, c3, e0, e1, e2, e3⟩ := hq
  replace c0 := (hb0.cell (p := ad) hlt).trans c0
  replace c1 := (hb0.cell (p := ⟨ad.block, ad.off + 1, none⟩) hlt).trans c1
  replace c2 := (hb0.cell (p := ⟨ad.block, ad.off + 2, none⟩) hlt).trans c2
  replace c3 := (hb0.cell (p := ⟨ad.block, ad.off + 3, none⟩) hlt).trans c3
  clear e0
  clear e1
  clear e2
  clear e3
  have hci : (4 : Int) ≤ c := by omega
  clear hb hc
  go_enter Tryz.func35, Tryz.ntmps35
  go_wp2
  generalize w.alloc (.cells #[.int .i64 0, .int .i64 0, .int .i64 0, .int .i64 0, .int .i64 0, .int .i64 0, .int .i64 0] 66) = w1 at *
  go_quiet (fail)
  have r0 := (OC.cell hC 0 _ rfl : w1.cell? ⟨w.heap.size, 0, none⟩ = some (.int .i64 0))
  have fz0 := OC.free hC 0
  have r1 := (OC.cell hC 1 _ rfl : w1.cell? ⟨w.heap.size, 1, none⟩ = some (.int .i64 0))
  have fz1 := OC.free hC 1
  have r2 := (OC.cell hC 2 _ rfl : w1.cell? ⟨w.heap.size, 2, none⟩ = some (.int .i64 0))
  have fz2 := OC.free hC 2
  have r3 := (OC.cell hC 3 _ rfl : w1.cell? ⟨w.heap.size, 3, none⟩ = some (.int .i64 0))
  have fz3 := OC.free hC 3
  have r4 := (OC.cell hC 4 _ rfl : w1.cell? ⟨w.heap.size, 4, none⟩ = some (.int .i64 0))
  have fz4 := OC.free hC 4
  have r5 := (OC.cell hC 5 _ rfl : w1.cell? ⟨w.heap.size, 5, none⟩ = some (.int .i64 0))
  have fz5 := OC.free hC 5
  have r6 := (OC.cell hC 6 _ rfl : w1.cell? ⟨w.heap.size, 6, none⟩ = some (.int .i64 0))
  have fz6 := OC.free hC 6
  go_wp2
  refine ret_head (g := w.heap.size) (v := 0) (n := 0) (r := 0) (h := 0) (k := 0) (f := 0) (e := 0) ((hC.below (below_drewN (Below.refl _ _) nq)).put7 0 0 0 0 0 0 0) rfl rfl rfl rfl ⟨rfl, ?_⟩
  exact (below_drewN hb0 nq).grown (put7_grown _ w.heap.size 0 0 0 0 0 0 0) hb0.size (by simp)

set_option maxRecDepth 100000 in
set_option maxHeartbeats 4000000 in
theorem Decode_end (ad : Addr) (c : Nat) (w : World) (a b d f a' b' d' f' : UInt8) (hq : Marked w ad a b d f a' b' d' f') (hlt : ad.block < w.heap.size) (hc : 4092 ≤ c) (hM : Marks w) (hb : decide (a.toNat = 5 ∧ b.toNat = 99 ∧ d.toNat = 111 ∧ f.toNat = 112) = true) (he : decide (a'.toNat = 101 ∧ b'.toNat = 110 ∧ d'.toNat = 100 ∧ f'.toNat = 46) = false) :
    Calls Tryz.prog 35 #[.slice (some ad) 4092 c] w fun en w' => en = .returned (.tuple #[zeroHead, .int .i64 70]) ∧ Below w.heap.size w w' := by
  have haa : ∀ (W : World) (m : Nat), (Instr.arrayAt 96 (.slice (some ad) 4 m)).run Tryz.prog W = .ok (.pointer (some ad)) W := fun W m => run_arrayAt (P := Tryz.prog) (w := W) 96 5 4 _ 4 _ Tryz.underlying96 (Nat.le_refl _)
  have hae : ∀ (W : World) (m : Nat), (Instr.arrayAt 96 (.slice (some ⟨ad.block, ad.off + 4088, none⟩) 4 m)).run Tryz.prog W = .ok (.pointer (some ⟨ad.block, ad.off + 4088, none⟩)) W := fun W m => run_arrayAt (P := Tryz.prog) (w := W) 96 5 4 _ 4 _ Tryz.underlying96 (Nat.le_refl _)
  have heq : ∀ W : World, (Op.equalIn 10000 96 (.agg #[.int .u8 (a.toNat : Int), .int .u8 (b.toNat : Int), .int .u8 (d.toNat : Int), .int .u8 (f.toNat : Int)]) (.agg #[.int .u8 5, .int .u8 99, .int .u8 111, .int .u8 112])).run Tryz.prog W = .ok true W := by
    intro W
    have := run_equal_four a.toNat b.toNat d.toNat f.toNat 5 99 111 112 W
    rw [hb] at this
    exact this
  have hee : ∀ W : World, (Op.equalIn 10000 96 (.agg #[.int .u8 (a'.toNat : Int), .int .u8 (b'.toNat : Int), .int .u8 (d'.toNat : Int), .int .u8 (f'.toNat : Int)]) (.agg #[.int .u8 101, .int .u8 110, .int .u8 100, .int .u8 46])).run Tryz.prog W = .ok false W := by
    intro W
    have := run_equal_four a'.toNat b'.toNat d'.toNat f'.toNat 101 110 100 46 W
    rw [he] at this
    exact this
  have hb0 := below1 w (.cells #[.int .i64 0, .int .i64 0, .int .i64 0, .int .i64 0, .int .i64 0, .int .i64 0, .int .i64 0] 66)
  have hC := HC.new w 0 0 0 0 0 0 0
  obtain ⟨k0, k1, k2, k3, k4, k5, k6, k7⟩ := hM.below hb0
  obtain ⟨c0, c1, c2, c3, e0, e1, e2, e3⟩ := hq
  replace c0 := (hb0.cell (p := ad) hlt).trans c0
  replace c1 := (hb0.cell (p := ⟨ad.block, ad.off + 1, none⟩) hlt).trans c1
  replace c2 := (hb0.cell (p := ⟨ad.block, ad.off + 2, none⟩) hlt).trans c2
  replace c3 := (hb0.cell (p := ⟨ad.block, ad.off + 3, none⟩) hlt).trans c3
  replace e0 := (hb0.cell (p := ⟨ad.block, ad.off + (4088 + 0), none⟩) hlt).trans e0
  replace e1 := (hb0.cell (p := ⟨ad.block, ad.off + (4088 + 1), none⟩) hlt).trans e1
  replace e2 := (hb0.cell (p := ⟨ad.block, ad.off + (4088 + 2), none⟩) hlt).trans e2
  replace e3 := (hb0.cell (p := ⟨ad.block, ad.off + (4088 + 3), none⟩) hlt).trans e3
  have hci : (4 : Int) ≤ c := by omega
  have hci2 : (4088 : Int) ≤ c := by omega
  have hci3 : (4092 : Int) ≤ c := by omega
  have hcn : ¬ (c = 4088) := by omega
  clear hb he hc
  go_enter Tryz.func35, Tryz.ntmps35
  go_wp2
  generalize w.alloc (.cells #[.int .i64 0, .int .i64 0, .int .i64 0, .int .i64 0, .int .i64 0, .int .i64 0, .int .i64 0] 66) = w1 at *
  go_quiet (fail)
  have r0 := (OC.cell hC 0 _ rfl : w1.cell? ⟨w.heap.size, 0, none⟩ = some (.int .i64 0))
  have fz0 := OC.free hC 0
  have r1 := (OC.cell hC 1 _ rfl : w1.cell? ⟨w.heap.size, 1, none⟩ = some (.int .i64 0))
  have fz1 := OC.free hC 1
  have r2 := (OC.cell hC 2 _ rfl : w1.cell? ⟨w.heap.size, 2, none⟩ = some (.int .i64 0))
  have fz2 := OC.free hC 2
  have r3 := (OC.cell hC 3 _ rfl : w1.cell? ⟨w.heap.size, 3, none⟩ = some (.int .i64 0))
  have fz3 := OC.free hC 3
  have r4 := (OC.cell hC 4 _ rfl : w1.cell? ⟨w.heap.size, 4, none⟩ = some (.int .i64 0))
  have fz4 := OC.free hC 4
  have r5 := (OC.cell hC 5 _ rfl : w1.cell? ⟨w.heap.size, 5, none⟩ = some (.int .i64 0))
  have fz5 := OC.free hC 5
  have r6 := (OC.cell hC 6 _ rfl : w1.cell? ⟨w.heap.size, 6, none⟩ = some (.int .i64 0))
  have fz6 := OC.free hC 6
  go_wp2
  refine ret_head (g := w.heap.size) (v := 0) (n := 0) (r := 0) (h := 0) (k := 0) (f := 0) (e := 0) ((hC.below (below_drewN (Below.refl _ _) nq)).put7 0 0 0 0 0 0 0) rfl rfl rfl rfl ⟨rfl, ?_⟩
  exact (below_drewN hb0 nq).grown (put7_grown _ w.heap.size 0 0 0 0 0 0 0) hb0.size (by simp)
end Go.Proofs.YtenalocpmigppaaGreatDoor
