/- Contracts of crc's Seal and Open and of the reference's. -/
import Derived.Test.YtenalocpmigppaaGreatDoorCrcX
import Derived.Deep.RegionHeld3
import Derived.Laws.Cover3
import Derived.Laws.StructEq
namespace Go.Proofs.YtenalocpmigppaaGreatDoor
open Go.RowKit

/-- '==' of two arrays of four bytes. -/
theorem run_equal_arr4 (a b d f a' b' d' f' : UInt8) (w : World) :
    (Op.equalIn 10000 96 (.agg #[.int .u8 (a.toNat : Int), .int .u8 (b.toNat : Int), .int .u8 (d.toNat : Int), .int .u8 (f.toNat : Int)]) (.agg #[.int .u8 (a'.toNat : Int), .int .u8 (b'.toNat : Int), .int .u8 (d'.toNat : Int), .int .u8 (f'.toNat : Int)])).run Tryz.prog w = .ok (decide ([a, b, d, f] = [a', b', d', f'])) w := by
  have hp : ∀ (i : Nat) (x0 x1 x2 x3 : Value), i < 4 → (part 5 #[x0, x1, x2, x3] i).run Tryz.prog w = .ok ([x0, x1, x2, x3].getD i undef) w := by
    intro i x0 x1 x2 x3 hi
    obtain rfl | rfl | rfl | rfl : i = 0 ∨ i = 1 ∨ i = 2 ∨ i = 3 := by omega
    all_goals simp [part, go_sem]
  have he : ∀ (x y : UInt8), (Op.equalIn 9999 5 (.int .u8 (x.toNat : Int)) (.int .u8 (y.toNat : Int))).run Tryz.prog w = .ok (decide (x = y)) w := by
    intro x y
    rw [run_equalIn_int w 9998 5 .u8 .u8 _ _ Tryz.underlying5]
    congr 1
    rw [Bool.eq_iff_iff]; simp
    constructor
    · intro h; exact UInt8.toNat_inj.1 (by omega)
    · rintro rfl; rfl
  rw [show (10000 : Nat) = 9999 + 1 from rfl, Op.equalIn]
  simp only [Sem.run_bind, run_underlying Tryz.underlying96, Result.andThen_ok]
  have hs : (sizeOf 5).run Tryz.prog w = .ok 1 w := by kernel_rfl
  rw [hs]
  simp only [Result.andThen_ok]
  simp only [Std.Legacy.Range.forIn_eq_forIn_range', Std.Legacy.Range.size, Nat.sub_zero, Nat.add_one_sub_one, Nat.div_one, List.range'_succ, List.range'_zero, List.forIn_cons, List.forIn_nil, Nat.mul_one, Nat.zero_add, Nat.reduceAdd]
  have p0 := fun x0 x1 x2 x3 => hp 0 x0 x1 x2 x3 (by decide)
  have p1 := fun x0 x1 x2 x3 => hp 1 x0 x1 x2 x3 (by decide)
  have p2 := fun x0 x1 x2 x3 => hp 2 x0 x1 x2 x3 (by decide)
  have p3 := fun x0 x1 x2 x3 => hp 3 x0 x1 x2 x3 (by decide)
  by_cases h0 : a = a'
  · by_cases h1 : b = b'
    · by_cases h2 : d = d'
      · by_cases h3 : f = f'
        · simp [p0, p1, p2, p3, he, h0, h1, h2, h3]
        · simp [p0, p1, p2, p3, he, h0, h1, h2, h3]
      · simp [p0, p1, p2, he, h0, h1, h2]
    · simp [p0, p1, he, h0, h1]
  · simp [p0, he, h0]

set_option maxHeartbeats 400000 in
theorem Seal_bad (A : Option Addr) (n c : Nat) (w : World) (hn : n ≠ 4092) :
    Calls Tryz.prog 18 #[.slice A n c] w fun e w' => e = .returned (.tuple #[.slice none 0 0, .int .i64 20]) ∧ w = w' := by
  have h1 : ((n : Int) != 4092) = true := by rw [bne_iff_ne]; omega
  go_enter Tryz.func18, Tryz.ntmps18
  go_wp2_with fail
  go_ret2
  exact ⟨rfl, rfl⟩

set_option maxHeartbeats 400000 in
theorem Seal_ok (A : Option Addr) (c : Nat) (xs : List UInt8) (w : World) (hx : RB w A 4092 c xs) (hg : Tab w) :
    Calls Tryz.prog 18 #[.slice A 4092 c] w fun e w' => ∃ g c', e = .returned (.tuple #[.slice (some ⟨g, 0, none⟩) 4096 c', .int .i64 0]) ∧ w.heap.size ≤ g ∧ OB w' g 4096 c' (xs ++ Crc.tail4 (Crc.sum xs)) ∧ Below w.heap.size w w' := by
  go_enter Tryz.func18, Tryz.ntmps18
  go_wp2_with (first
    | (go_at_call 59; refine (mark_calls _ _ _ xs _ hx (by omega) hg).mono ?_; rintro e w1 ⟨rfl, b1⟩; have z1 := b1.size)
    | (at_make; refine wpB_make rfl _ _ rfl _ _ _ 4096 rfl rfl rfl (by omega) ?_; intro g3 w3 s3 o3 k3; have b3 := (b1.alloc z1 _).grown k3 (by simp; omega) (by simp); have z3 := k3.size; have l3 := o3.lt; have h3 := hx.below b3)
    | (at_builtin; refine wpB_app rfl _ _ rfl _ _ _ _ rfl o3 _ _ _ _ rfl h3 4092 (by omega) (by omega) ?_; intro g4 c4 w4 q4 p4 o4 k4)
    | (at_builtin; refine wpB_app rfl _ _ rfl _ _ _ _ rfl o4 _ _ _ (Crc.tail4 (Crc.sum xs)) rfl ?_ 4096 (by omega) (by omega) ?_))
  · have hblk : (w1.alloc (.cells (u8s (Crc.tail4 (Crc.sum xs))).toArray 96)).heap[w1.heap.size]? = some (.cells (u8s (Crc.tail4 (Crc.sum xs))).toArray 96 (0, 0)) := heap_alloc_new w1 _
    have hz : w1.heap.size < (w1.alloc (.cells (u8s (Crc.tail4 (Crc.sum xs))).toArray 96)).heap.size := by simp
    exact (RB.of_block _ 4 hblk rfl (by simp [maxLen])).same fun ad e _ => by
      cases e
      exact (Sm.of_grown k3 hz (by simp)).trans (Sm.of_grown k4 (Nat.lt_of_lt_of_le hz z3) (by simp; have := Nat.lt_of_lt_of_le hz s3; omega))
  · intro g5 c5 w5 q5 p5 o5 k5
    go_wp2
    go_ret2
    have s3' : w1.heap.size + 1 ≤ g3 := by simpa using s3
    have z4 := k4.size
    exact ⟨_, _, rfl, by omega, o5, (b3.grown k4 (by omega) (by simp; omega)).grown k5 (by omega) (by simp; omega)⟩

set_option maxHeartbeats 400000 in
theorem Open_len (A : Option Addr) (n c : Nat) (w : World) (hn : n ≠ 4096) :
    Calls Tryz.prog 20 #[.slice A n c] w fun e w' => e = .returned (.tuple #[.slice none 0 0, .int .i64 21]) ∧ w = w' := by
  have h1 : ((n : Int) != 4096) = true := by rw [bne_iff_ne]; omega
  go_enter Tryz.func20, Tryz.ntmps20
  go_wp2_with fail
  go_ret2
  exact ⟨rfl, rfl⟩

/-- What Open answers of a page of the right length. -/
def OpenPost (w : World) (xs : List UInt8) (r : Bool) (e : Ending) (w' : World) : Prop := match r with
  | true => ∃ g c', e = .returned (.tuple #[.slice (some ⟨g, 0, none⟩) 4092 c', .int .i64 0]) ∧ w.heap.size ≤ g ∧ OB w' g 4092 c' xs ∧ Below w.heap.size w w'
  | false => e = .returned (.tuple #[.slice none 0 0, .int .i64 22]) ∧ Below w.heap.size w w'

set_option maxHeartbeats 400000 in
theorem Open_walk (ad : Addr) (c : Nat) (xs : List UInt8) (a b d f : UInt8) (w : World) (hx : RB w (some ad) 4096 c (xs ++ [a, b, d, f])) (hg : Tab w) (r : Bool) (hr : decide ([a, b, d, f] = Crc.tail4 (Crc.sum xs)) = r) :
    Calls Tryz.prog 20 #[.slice (some ad) 4096 c] w (OpenPost w xs r) := by
  have hl := hx.len
  have hc := RC.le hx
  have hxs : xs.length = 4092 := by simp at hl; omega
  have hbody : RB w (some ad) 4092 c xs := by
    have h2 := hx.take 4092 (by omega)
    have e : (xs ++ [a, b, d, f]).take 4092 = xs := by rw [← hxs]; exact List.take_left
    rwa [e] at h2
  have hcell : ∀ j u, [a, b, d, f][j]? = some u → w.cell? ⟨ad.block, ad.off + (4092 + j), none⟩ = some (.int .u8 (u.toNat : Int)) := by
    intro j u hu
    have h2 := RC.cell hx ad rfl (4092 + j) (.int .u8 (u.toNat : Int)) (by
      rw [u8s_append, List.getElem?_append_right (by rw [u8s_length]; omega), u8s_length, hxs, Nat.add_sub_cancel_left, u8s, List.getElem?_map, hu]; rfl)
    have e : ad.add (4092 + j) = ⟨ad.block, ad.off + (4092 + j), none⟩ := by unfold Addr.add; rw [if_neg (by omega)]
    rwa [e] at h2
  have c0 := hcell 0 a rfl
  have c1 := hcell 1 b rfl
  have c2 := hcell 2 d rfl
  have c3 := hcell 3 f rfl
  clear hcell
  have HL := hideIt hl
  have HX := hideIt hxs
  clear hl hxs
  have haa : ∀ W : World, (Instr.arrayAt 96 (.slice (some ⟨ad.block, ad.off + 4092, none⟩) 4 (c - 4092))).run Tryz.prog W = .ok (.pointer (some ⟨ad.block, ad.off + 4092, none⟩)) W := fun W => run_arrayAt (P := Tryz.prog) (w := W) 96 5 4 _ 4 _ Tryz.underlying96 (Nat.le_refl _)
  have heq := run_equal_arr4 a b d f (by0 (Crc.sum xs)) (by1 (Crc.sum xs)) (by2 (Crc.sum xs)) (by3 (Crc.sum xs))
  rw [← tail4_by, hr] at heq
  have hb0 : Below w.drew.heap.size w w.drew := (Below.refl _ _).drew
  clear hr
  have hlt : ad.block < w.drew.heap.size := hx.block_lt (by omega)
  have hbd : RB w.drew (some ad) 4092 c xs := hbody.below (Below.refl _ _).drew
  have hgd : Tab w.drew := hg.below (Below.refl _ _).drew
  have hcn : ¬ (c = 4092) := by omega
  have hci : (4096 : Int) ≤ c := by omega
  go_enter Tryz.func20, Tryz.ntmps20
  go_wp2_with fail
  go_region_held3 (fun w' => w'.cell? ⟨ad.block, ad.off + (4092 + 0), none⟩ = some (.int .u8 (a.toNat : Int)) ∧ w'.cell? ⟨ad.block, ad.off + (4092 + 1), none⟩ = some (.int .u8 (b.toNat : Int)) ∧ w'.cell? ⟨ad.block, ad.off + (4092 + 2), none⟩ = some (.int .u8 (d.toNat : Int)) ∧ w'.cell? ⟨ad.block, ad.off + (4092 + 3), none⟩ = some (.int .u8 (f.toNat : Int)))
    (first | exact ⟨e0, e1, e2, e3⟩ | go_keep)
    (first | (go_at_call 59; refine (mark_calls _ _ _ xs _ hbd (by omega) hgd).mono ?_; rintro e w1 ⟨rfl, b1⟩; have e0 := (b1.cell (p := ⟨ad.block, ad.off + (4092 + 0), none⟩) hlt).trans c0; have e1 := (b1.cell (p := ⟨ad.block, ad.off + (4092 + 1), none⟩) hlt).trans c1; have e2 := (b1.cell (p := ⟨ad.block, ad.off + (4092 + 2), none⟩) hlt).trans c2; have e3 := (b1.cell (p := ⟨ad.block, ad.off + (4092 + 3), none⟩) hlt).trans c3))
  all_goals
    have b1' := hb0.trans b1
    cases r
    · go_wp2
      go_ret2
      exact ⟨rfl, b1'⟩
    · go_wp2_with (first
        | (at_make; refine wpB_make rfl _ _ rfl _ _ _ 4092 rfl rfl rfl (by omega) ?_; intro g3 w3 s3 o3 k3; have b3 := b1'.grown k3 b1'.size (by simp); have h3 := hbody.below b3)
        | (at_builtin; refine wpB_app rfl _ _ rfl _ _ _ _ rfl o3 _ _ _ _ rfl h3 4092 (by omega) (by omega) ?_; intro g4 c4 w4 q4 p4 o4 k4))
      go_ret2
      have z1 := b1'.size
      have z3 := k3.size
      have z : w.drew.heap.size = w.heap.size := rfl
      exact ⟨g4, c4, rfl, by omega, o4, b3.grown k4 (by omega) (by simp; omega)⟩

end Go.Proofs.YtenalocpmigppaaGreatDoor
