/- The walk of the law CrcSums. -/
import Derived.Test.YtjfecechagoepaaDoorCrcF
namespace Go.Proofs.YtjfecechagoepaaDoor
open Go.RowKit

theorem bits_xor8 (x y : UInt8) : bits .xor .u8 (x.toNat : Int) (y.toNat : Int) = ((x ^^^ y).toNat : Int) := by
  show IntKind.u8.wrap ((BitVec.ofInt 8 (x.toNat : Int) ^^^ BitVec.ofInt 8 (y.toNat : Int)).toNat : Int) = _
  have e : ∀ z : UInt8, BitVec.ofInt 8 (z.toNat : Int) = z.toBitVec := fun z => by
    refine BitVec.eq_of_toNat_eq ?_
    have := z.toNat_lt
    rw [BitVec.toNat_ofInt]
    show _ = z.toNat
    omega
  rw [e, e, IntKind.wrap_u8]
  show ((x ^^^ y).toNat : Int) % 256 = _
  have := (x ^^^ y).toNat_lt
  omega

/-- The place (a % n + n) % n. -/
theorem place (a : Int) (n : Nat) (hn : 0 < n) : ∃ (r : Int) (q : Nat), Int.tmod a n = r ∧ -(n : Int) < r ∧ r < n ∧ r % (n : Int) = (q : Int) ∧ q < n := by
  have h1 : Int.tmod a n < n := Int.tmod_lt_of_pos _ (by omega)
  have h2 : -(n : Int) < Int.tmod a n := by
    have := Int.lt_tmod_of_pos a (b := (n : Int)) (by omega)
    omega
  have h3 : 0 ≤ Int.tmod a n % (n : Int) := Int.emod_nonneg _ (by omega)
  have h4 : Int.tmod a n % (n : Int) < n := Int.emod_lt_of_pos _ (by omega)
  exact ⟨_, (Int.tmod a n % (n : Int)).toNat, rfl, h2, h1, by omega, by omega⟩

theorem turn_list (xs : List UInt8) (q : Nat) (hq : q < xs.length) (b : UInt8) : (xs ++ marks).set q b = xs.set q b ++ marks := List.set_append_left _ _ hq

theorem turn_take0 {w : World} {g c n : Nat} {A : Option Addr} {c' : Nat} {xs : List UInt8} (h : OB w g (n + 3) c (xs ++ marks)) (hx : RB w A n c' xs) : RB w (some ⟨g, 0, none⟩) n c xs := by
  have := h.read.take n (by omega)
  rwa [← hx.len, List.take_left, hx.len] at this
theorem turn_cell {w : World} {g c n : Nat} {A : Option Addr} {c' : Nat} {xs : List UInt8} (h : OB w g (n + 3) c (xs ++ marks)) (hx : RB w A n c' xs) {q : Nat} (hq : q < n) {b : UInt8} (hb : Hid (xs.getD q 0 = b)) : w.cell? ⟨g, q, none⟩ = some (.int .u8 (b.toNat : Int)) := by
  have hl := hx.len
  have := h.cell q (by rw [List.length_append]; omega)
  rw [this, List.getElem_append_left (by omega), ← hb.out, List.getD_eq_getElem?_getD, List.getElem?_eq_getElem (by omega)]; rfl
/-- The turned memory. -/
theorem turn_set {w : World} {g c n : Nat} {xs : List UInt8} (h : OB w g (n + 3) c (xs ++ marks)) (hl : xs.length = n) {q : Nat} (hq : q < n) (b x : UInt8) :
    OB (w.setCell ⟨g, q, none⟩ (.int .u8 (bits .xor .u8 (b.toNat : Int) (x.toNat : Int)))) g (n + 3) c (xs.set q (b ^^^ x) ++ marks) := by
  rw [bits_xor8, ← turn_list xs q (by omega)]
  exact h.set q (b ^^^ x)
theorem turn_read {w : World} {g c n : Nat} {xs : List UInt8} (h : OB w g (n + 3) c (xs ++ marks)) : RB w (some ⟨g, 0, none⟩) n c xs := by
  have hl : xs.length = n := by have := h.len; rw [List.length_append] at this; simp only [marks, List.length_cons, List.length_nil] at this; omega
  have := h.read.take n (by omega)
  rwa [← hl, List.take_left, hl] at this
theorem room_le {w : World} {g c n : Nat} {ys : List UInt8} (h : OB w g (n + 3) c ys) : n ≤ c := by have := OC.le h; omega

set_option maxRecDepth 100000 in
set_option maxHeartbeats 1000000 in
theorem CrcSums_walk (A : Option Addr) (n c : Nat) (xs : List UInt8) (a : Int) (x : UInt8) (w : World) (hx : RB w A n c xs) (hb : n ≤ 140737488351232) (_ha : -9223372036854775808 ≤ a ∧ a ≤ 9223372036854775807) (hg : Tab w) :
    Calls Tryd.prog 3 #[.slice A n c, .int .i64 a, .int .u8 (x.toNat : Int)] w fun e w' => e = .returned (.bool true) ∧ Below w.heap.size w w' := by
  by_cases hbig : 65536 < n
  · have hbig' : (65536 : Int) < n := by omega
    go_enter Tryd.func3, Tryd.ntmps3
    go_wp2_with (go_at_call 13; refine (first_calls _ hg).mono ?_; rintro e w1 ⟨rfl, b1⟩)
    go_ret
    exact ⟨rfl, b1⟩
  have hsmall : (n : Int) ≤ 65536 := by omega
  rcases Nat.eq_zero_or_pos n with h0 | h0
  · have hn0 : ((n : Int) == 0) = true := by rw [beq_iff_eq]; omega
    clear h0
    go_enter Tryd.func3, Tryd.ntmps3
    go_wp2_with (first
      | (go_at_call 17; refine (still_calls _ _ _ _ _ _ _ o2.read h2 hb).mono ?_; rintro e w3 ⟨rfl, rfl⟩)
      | (go_at_call 16; refine (refSum_calls _ _ _ _ _ h2 hb).mono ?_; rintro e w3 ⟨rfl, rfl⟩)
      | (go_at_call 15; refine (crcSum_calls _ _ _ _ _ (turn_read o2) hb (hg.below b2)).mono ?_; rintro e w3 ⟨rfl, rfl⟩)
      | (go_at_call 14; refine (room_calls _ _ _ _ _ h1 hb).mono ?_; rintro e w2 ⟨g2, c2, rfl, s2, o2, b2'⟩; have b2 := b1.trans (b2'.mono b1.size); have h2 := hx.below b2; have l2 := room_le o2)
      | (go_at_call 13; refine (first_calls _ hg).mono ?_; rintro e w1 ⟨rfl, b1⟩; have h1 := hx.below b1))
    go_ret
    exact ⟨rfl, b2⟩
  obtain ⟨r, q, hr, hr1, hr2, hq, hqn⟩ := place a n h0
  have hn0 : ((n : Int) == 0) = false := by rw [beq_eq_false_iff_ne]; omega
  obtain ⟨b, hb0⟩ : ∃ b, xs.getD q 0 = b := ⟨_, rfl⟩
  have HB := hideIt hb0
  have HL := hideIt hx.len
  clear hb0
  go_enter Tryd.func3, Tryd.ntmps3
  go_wp2_with (first
    | (go_at_call 16; refine (refSum_calls _ _ _ _ _ o4.read hb).mono ?_; rintro e w5 ⟨rfl, rfl⟩)
    | (go_at_call 15; refine (crcSum_calls _ _ _ _ _ r4 hb (hg.below b4)).mono ?_; rintro e w5 ⟨rfl, rfl⟩)
    | (go_at_call 18; refine (Bytes_calls _ _ _ _ _ (turn_read o3) hb).mono ?_; rintro e w4 ⟨g4, c4, rfl, s4, o4, b4'⟩; have b4 := b3.trans (b4'.mono b3.size); have r4 := turn_read (o3.below b4'))
    | (go_at_call 17; refine (still_calls _ _ _ _ _ _ _ o2.read h2 hb).mono ?_; rintro e w3 ⟨rfl, rfl⟩; have cq := turn_cell o2 h2 hqn HB; have fq := o2.free q; have o3 := turn_set o2 HL.out hqn b x; have b3 := b2.setCell (p := ⟨g2, q, none⟩) (Nat.le_trans b1.size s2) (.int .u8 (bits .xor .u8 (b.toNat : Int) (x.toNat : Int))))
    | (go_at_call 16; refine (refSum_calls _ _ _ _ _ h2 hb).mono ?_; rintro e w3 ⟨rfl, rfl⟩)
    | (go_at_call 15; refine (crcSum_calls _ _ _ _ _ (turn_read o2) hb (hg.below b2)).mono ?_; rintro e w3 ⟨rfl, rfl⟩)
    | (go_at_call 14; refine (room_calls _ _ _ _ _ h1 hb).mono ?_; rintro e w2 ⟨g2, c2, rfl, s2, o2, b2'⟩; have b2 := b1.trans (b2'.mono b1.size); have h2 := hx.below b2; have l2 := room_le o2)
    | (go_at_call 13; refine (first_calls _ hg).mono ?_; rintro e w1 ⟨rfl, b1⟩; have h1 := hx.below b1))
  go_ret
  exact ⟨rfl, b4⟩
end Go.Proofs.YtjfecechagoepaaDoor
