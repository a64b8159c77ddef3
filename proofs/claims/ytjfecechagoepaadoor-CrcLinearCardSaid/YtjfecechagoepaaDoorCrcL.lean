/- Contracts of the laws' own helpers: num, room, still, padded. -/
import Derived.Test.YtjfecechagoepaaDoorCrcZ
namespace Go.Proofs.YtjfecechagoepaaDoor
open Go.RowKit

set_option maxHeartbeats 400000 in
theorem num_calls (k : Int) (w : World) : Calls Tryd.prog 24 #[.int .i64 k] w fun e w' => e = .returned (.int .i64 k) ∧ w = w' := by
  go_enter Tryd.func24, Tryd.ntmps24
  go_wp2
  go_ret
  exact ⟨rfl, rfl⟩

def marks : List UInt8 := [201, 202, 203]

set_option maxHeartbeats 400000 in
theorem room_calls (A : Option Addr) (n c : Nat) (xs : List UInt8) (w : World) (hx : RB w A n c xs) (hb : n ≤ 140737488351232) :
    Calls Tryd.prog 14 #[.slice A n c] w fun e w' => ∃ g c', e = .returned (.slice (some ⟨g, 0, none⟩) (n + 3) c') ∧ w.heap.size ≤ g ∧ OB w' g (n + 3) c' (xs ++ marks) ∧ Below w.heap.size w w' := by
  go_enter Tryd.func14, Tryd.ntmps14
  go_wp2_with (first
    | (go_at_call 18; refine (Bytes_calls _ _ _ xs _ hx hb).mono ?_; rintro e w1 ⟨g1, c1, rfl, s1, o1, b1⟩; have z1 := b1.size; have l1 := o1.lt)
    | (at_builtin; have o2 := o1.below ((Below.refl _ _).alloc (Nat.le_refl _) (.cells (u8s marks).toArray 5)); refine wpB_app rfl _ _ rfl _ _ _ _ rfl o2 _ _ _ marks rfl (RB.lit w1 marks 3 rfl (by simp [maxLen])).read (n + 3) rfl (by omega) ?_; intro g4 c4 w4 q4 p4 o4 k4))
  go_ret
  have q4' : g4 = g1 ∨ w1.heap.size + 1 ≤ g4 := by simpa using q4
  exact ⟨_, _, rfl, by omega, o4, (b1.alloc z1 _).grown k4 (by simp; omega) (by simp; omega)⟩

set_option maxHeartbeats 400000 in
theorem still_calls (g c A : _) (n c' : Nat) (xs : List UInt8) (w : World) (ho : RB w (some ⟨g, 0, none⟩) (n + 3) c (xs ++ marks)) (hx : RB w A n c' xs) (hb : n ≤ 140737488351232) :
    Calls Tryd.prog 17 #[.slice (some ⟨g, 0, none⟩) (n + 3) c, .slice A n c'] w fun e w' => e = .returned (.bool true) ∧ w = w' := by
  have hl := hx.len
  have hc := RC.le ho
  have h1 : RB w (some ⟨g, 0, none⟩) n c xs := by
    have := ho.take n (by omega)
    rwa [List.take_append_of_le_length (by omega), List.take_of_length_le (by omega)] at this
  have hcell : ∀ j u, marks[j]? = some u → w.cell? ⟨g, n + j, none⟩ = some (.int .u8 (u.toNat : Int)) := by
    intro j u hu
    have h2 := RC.cell ho _ rfl (n + j) (.int .u8 (u.toNat : Int)) (by
      rw [u8s_append, List.getElem?_append_right (by rw [u8s_length]; omega), u8s_length, hl, Nat.add_sub_cancel_left, u8s, List.getElem?_map, hu]; rfl)
    rwa [Addr.add_lit, Nat.zero_add] at h2
  have c0 : w.cell? ⟨g, n, none⟩ = some (.int .u8 201) := hcell 0 _ rfl
  have c1 : w.cell? ⟨g, n + 1, none⟩ = some (.int .u8 202) := hcell 1 _ rfl
  have c2 : w.cell? ⟨g, n + 2, none⟩ = some (.int .u8 203) := hcell 2 _ rfl
  clear hcell hl
  go_enter Tryd.func17, Tryd.ntmps17
  go_wp2_with (go_at_call 23; refine (SameBytes_calls _ _ _ _ _ _ _ _ _ h1 hx true (by simp)).mono ?_; rintro e w4 ⟨rfl, rfl⟩)
  go_ret
  exact ⟨rfl, rfl⟩

def pad (xs : List UInt8) (n : Nat) : List UInt8 := xs.take n ++ List.replicate (n - xs.length) 0
theorem pad_length (xs : List UInt8) (n : Nat) : (pad xs n).length = n := by simp [pad]; omega

set_option maxHeartbeats 400000 in
theorem padded_calls (A : Option Addr) (n c m : Nat) (xs : List UInt8) (w : World) (hx : RB w A n c xs) (hm : m ≤ 100000) :
    Calls Tryd.prog 26 #[.slice A n c, .int .i64 m] w fun e w' => ∃ g, e = .returned (.slice (some ⟨g, 0, none⟩) m m) ∧ w.heap.size ≤ g ∧ OB w' g m m (pad xs m) ∧ Below w.heap.size w w' := by
  have HL := hideIt hx.len
  go_enter Tryd.func26, Tryd.ntmps26
  go_wp2_with (first
    | (at_make; refine wpB_full rfl _ _ rfl _ _ _ _ m rfl rfl rfl rfl (by omega) ?_; intro g1 w1 s1 o1 k1; have b1 := below_of_grown k1 (Nat.le_refl _) (by simp); have h1 := hx.below b1; have z1 := k1.size; have l1 := o1.lt)
    | (with_reducible refine wpB_copy rfl (.tmp 8) (.tmp 9) rfl _ _ _ rfl _ _ _ rfl _ _ _ 0 _ _ o1 h1 (min n m) rfl (fun _ => rfl) (by omega) ?_; intro w2 o2 k2))
  go_ret
  have e : (zeros m).take 0 ++ (xs.take (min n m) ++ (zeros m).drop (0 + min n m)) = pad xs m := by
    unfold pad zeros
    rw [HL.out, Nat.zero_add, List.drop_replicate, List.take_zero, List.nil_append]
    congr 1
    · rw [Nat.min_comm, ← List.take_take, List.take_of_length_le (l := xs) (by rw [HL.out]; exact Nat.le_refl _)]
    · congr 1; omega
  rw [e] at o2
  exact ⟨_, rfl, s1, o2, b1.grown k2 z1 (by simp; omega)⟩
end Go.Proofs.YtjfecechagoepaaDoor
