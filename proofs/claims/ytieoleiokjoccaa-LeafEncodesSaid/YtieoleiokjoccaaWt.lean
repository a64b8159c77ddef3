/- The contracts of coppiceref1's reader: New, Bytes, Num. -/
import Derived.Test.YtieoleiokjoccaaRefA
import Derived.Test.YtieoleiokjoccaaWs
import Derived.Test.YtieoleiokjoccaaWa
import Derived.Deep.RegionHeld3
namespace Go.Proofs.Ytieoleiokjoccaa
open Go.RowKit

set_option maxHeartbeats 400000 in
theorem New_calls (A : Option Addr) (n c : Nat) (xs : List UInt8) (w : World) (hx : RB w A n c xs) (hb : n ≤ 140737488351232) :
    Calls Try.prog 63 #[.slice A n c] w fun e w' => ∃ g, e = .returned (.pointer (some ⟨g, 0, none⟩)) ∧ w.heap.size ≤ g ∧ Rd w' g xs 0 0 ∧ Below w.heap.size w w' := by
  go_enter Try.func63, Try.ntmps63
  go_wp2_with (go_at_call 21; refine (Bytes_calls _ _ _ _ _ hx (by omega)).mono ?_; rintro e w1 ⟨g1, c1, rfl, s1, o1, b1⟩)
  have z1 := b1.size
  go_ret
  exact ⟨_, rfl, z1, Rd.new o1 (by omega) (by decide), b1.alloc z1 _⟩

theorem num_step (x : Nat) (b : UInt8) (m : Nat) (hm : m + 1 ≤ 8) (hx : x < 256 ^ m) : bits .or .u64 (IntKind.u64.wrap ((x : Int) * 256)) (IntKind.u64.wrap (b.toNat : Int)) = ((b.toNat + 256 * x : Nat) : Int) ∧ b.toNat + 256 * x < 256 ^ (m + 1) := by
  have hb := b.toNat_lt
  have e1 : 256 ^ (m + 1) = 256 ^ m * 256 := Nat.pow_succ ..
  have h2 : b.toNat + 256 * x < 256 ^ (m + 1) := by rw [e1]; omega
  refine ⟨?_, h2⟩
  have hp : 256 ^ (m + 1) ≤ 256 ^ 8 := Nat.pow_le_pow_right (by decide) hm
  have e3 : (x : Int) * 256 = ((256 * x : Nat) : Int) := by omega
  have p8 : b.toNat < 256 ^ 8 := Nat.lt_of_lt_of_le hb (by decide)
  rw [wrapu64_of _ p8, e3, wrapu64_of _ (by omega), bits_or64 _ _ (by omega) p8]
  congr 1
  have := Nat.two_pow_add_eq_or_of_lt (i := 8) (b := b.toNat) hb x
  rw [show (2 : Nat) ^ 8 = 256 from rfl] at this
  rw [← this, Nat.add_comm]

set_option maxRecDepth 100000 in
set_option maxHeartbeats 1000000 in
theorem Num_ok (g : Nat) (B : List UInt8) (at_ W : Nat) (w : World) (h : Rd w g B at_ 0) (hk : at_ + W ≤ B.length) (hW : W ≤ 8) :
    Calls Try.prog 64 #[.pointer (some ⟨g, 0, none⟩), .int .i64 (W : Int)] w fun e w' => e = .returned (.int .u64 (unle ((B.drop at_).take W) : Nat)) ∧ Rd w' g B (at_ + W) 0 ∧ w.grownBy w' (some g) := by
  obtain ⟨gb, n, c, c0, c1, c2, f1, f2, ob, ne, la, ln, lc⟩ := h.laid
  obtain ⟨L, hL⟩ : ∃ L, (B.drop at_).take W = L := ⟨_, rfl⟩
  have hl : L.length = W := by rw [← hL, List.length_take, List.length_drop]; omega
  have hget : ∀ k (hk : k < L.length) (hb : at_ + k < B.length), L[k] = B[at_ + k] := by
    intro k hk hb
    subst hL
    simp [List.getElem_take, List.getElem_drop]
  rw [hL]
  clear hL
  have HL := hideIt hl
  have HB := hideIt ob.len
  have hn : at_ + W ≤ n := by rw [← HB.out]; exact hk
  clear hl
  have i1 : (W : Int) ≤ (n : Int) - (at_ : Int) := by omega
  go_enter Try.func64, Try.ntmps64
  go_wp2
  go_quiet (fail)
  go_wp2
  go_loopw [5, 6] (fun xx ii wr => ∃ (k x j : Nat) (i : Int), k ≤ W ∧ i = (k : Int) - 1 ∧ xx = .int .u64 (x : Int) ∧ ii = .int .i64 i ∧ Hid (x = unle (L.drop k)) ∧ Hid (x < 256 ^ (W - k)) ∧ wr = w.drewN j)
    (fun _ ii _ => (intOf ii + 1).toNat)
  case atStart => exact ⟨W, 0, _, _, by omega, rfl, rfl, rfl, by unfold Hid; rw [List.drop_of_length_le (by rw [HL.out]; exact Nat.le_refl _)]; rfl, by unfold Hid; simp, rfl⟩
  case round =>
    obtain ⟨k, x, j, i, hkW, hi, rfl, rfl, HX, hx, rfl⟩ := hrel
    rcases Nat.eq_zero_or_pos k with hk0 | hk0
    · subst hk0
      obtain rfl : i = -1 := by omega
      clear hi
      have e1 : (((at_ + W : Nat) : Int)) = (at_ : Int) + (W : Int) := by omega
      have i3 : (at_ : Int) + (W : Int) ≤ (n : Int) := by omega
      go_wp2
      go_ret
      refine ⟨?_, ?_, ?_⟩
      · rw [HX.out]; rfl
      · exact (h.drewN _).setAtI _ _ e1.symm (by rw [HB.out]; exact hn)
      · exact grownBy_drewSet _ _ _ _ _
    · obtain ⟨m, rfl⟩ : ∃ m, k = m + 1 := ⟨k - 1, by omega⟩
      obtain rfl : i = (m : Int) := by omega
      clear hi hk0
      have hml : m < L.length := by rw [HL.out]; omega
      have hmb : at_ + m < B.length := by rw [HB.out]; omega
      have cell := ob.cell (at_ + m) hmb
      rw [← hget m hml hmb] at cell
      have und := unle_drop L m hml
      rw [← HX.out] at und
      generalize L[m] = b at cell und
      have st := num_step x b (W - (m + 1)) (by omega) hx.out
      rw [show W - (m + 1) + 1 = W - m from by omega, ← und] at st
      have ST := hideIt st
      have i2 : (at_ : Int) + (m : Int) < (n : Int) := by omega
      have i3 : (0 : Int) ≤ (at_ : Int) + (m : Int) := by omega
      have e1 : ((at_ : Int) + (m : Int)).toNat = at_ + m := by omega
      clear st und hget
      go_wp2
      go_quiet (fail)
      go_wp2
      go_roundw
      case rel => exact ⟨m, _, _, _, by omega, by go_num, by rw [ST.out.1], rfl, rfl, ST.out.2, rfl⟩
      case measure => simp [intOf]

/-- Bytes of the document's reader, where they are there. -/
theorem rBytes_ok (g : Nat) (B : List UInt8) (at_ m : Nat) (w : World) (h : Rd w g B at_ 0) (hk : at_ + m ≤ B.length) (hb : B.length ≤ 140737488351232) :
    Calls Try.prog 66 #[.pointer (some ⟨g, 0, none⟩), .int .i64 (m : Int)] w fun e w' => ∃ gb c, e = .returned (.slice (some ⟨gb, 0, none⟩) m c) ∧ w.heap.size ≤ gb ∧ OB w' gb m c ((B.drop at_).take m) ∧ Rd w' g B (at_ + m) 0 ∧ w.grownBy w' (some g) := by
  obtain ⟨gb, n, c, c0, c1, c2, f1, f2, ob, ne, la, ln, lc⟩ := h.laid
  have HB := hideIt ob.len
  have hn : at_ + m ≤ n := by rw [← HB.out]; exact hk
  have hn2 : n ≤ 140737488351232 := by rw [← HB.out]; exact hb
  have i1 : (m : Int) ≤ (n : Int) - (at_ : Int) := by omega
  have i3 : (at_ : Int) + (m : Int) ≤ (n : Int) := by omega
  have i4 : (n : Int) ≤ (c : Int) := by omega
  have i5 : (at_ : Int) ≤ (at_ : Int) + (m : Int) := by omega
  have i6 : (at_ : Int) + (m : Int) ≤ (c : Int) := by omega
  have i7 : (0 : Int) ≤ (at_ : Int) + (m : Int) := by omega
  have hw : IntKind.i64.wrap ((at_ : Int) + (m : Int)) = (at_ : Int) + (m : Int) := by rw [IntKind.wrap_i64]; omega
  have d0 : decide ((m : Int) < 0) = false := decide_eq_false (by omega)
  have e1 : (((at_ + m : Nat) : Int)) = (at_ : Int) + (m : Int) := by omega
  have e2 : ((at_ : Int) + (m : Int)).toNat = at_ + m := by omega
  have lt := h.lt
  by_cases hca : c = at_
  · obtain rfl : m = 0 := by omega
    subst hca
    obtain rfl : n = c := by omega
    clear i1 i3 i4 i5 i6 i7 hw e2 d0
    have a1 : (0 : Int) ≤ (n : Int) := by omega
    have a2 : IntKind.i64.wrap ((n : Int) + 0) = (n : Int) := by rw [IntKind.wrap_i64]; omega
    have a3 : IntKind.i64.wrap (n : Int) = (n : Int) := by rw [IntKind.wrap_i64]; omega
    have a4 : (n : Int) - (n : Int) = 0 := by omega
    have a5 : (n : Int) + 0 = (n : Int) := by omega
    have cut : RB w (some ⟨gb, 0, none⟩) 0 0 ((B.drop n).take 0) := RB.zero w _
    go_enter Try.func66, Try.ntmps66
    go_wp2
    go_quiet (fail)
    go_wp2
    have bq : Below w.heap.size w (w.drewN nq).drew := (below_drewN (Below.refl _ _) nq).drew
    have cutd : RB (w.drewN nq).drew (some ⟨gb, 0, none⟩) 0 0 ((B.drop n).take 0) := cut.below bq
    have hd : Rd (w.drewN nq).drew g B n 0 := h.below bq
    have lt' : g < (w.drewN nq).drew.heap.size := lt
    go_region_held3 (fun w' => w'.cell? ⟨g, 0, none⟩ = some (.slice (some ⟨gb, 0, none⟩) n n) ∧ w'.cell? ⟨g, 1, none⟩ = some (.int .i64 (n : Int)))
      (first | exact ⟨k0, k1⟩ | go_keep)
      (first | (go_at_call 21; refine (Bytes_calls _ _ _ _ _ cutd (by omega)).mono ?_; rintro e w2 ⟨g2, c2', rfl, s2, o2, b2⟩; have k0 := (b2.cell (p := ⟨g, 0, none⟩) lt').trans c0; have k1 := (b2.cell (p := ⟨g, 1, none⟩) lt').trans c1))
    all_goals
      have hd2 := hd.below b2
      obtain ⟨gb', n', c'', q⟩ := hd2.laid
      have fr := q.f1
      have ne2 : g2 ≠ g := by omega
      go_wp2
      go_ret
      refine ⟨g2, c2', rfl, s2, o2.same (Sm.setCell _ _ _ ne2), hd2.setAtI _ _ e1.symm (by rw [HB.out]; exact hn), ?_⟩
      exact World.grownBy.trans ⟨b2.os.trans bq.os, b2.tape.trans bq.tape, b2.output.trans bq.output, Nat.le_trans bq.size b2.size, fun k hk _ => (b2.block k hk).trans (bq.block k hk)⟩ (grownBy_set _ _ _ _)
  · have hcn : ¬ (c = at_) := hca
    have cut := ob.read.cut (A' := some ⟨gb, at_, none⟩) at_ (at_ + m) c (by omega) hn (by omega) (Nat.le_refl _) (fun _ => by simp [Addr.add]) (fun q => by cases q)
    rw [Nat.add_sub_cancel_left] at cut
    go_enter Try.func66, Try.ntmps66
    go_wp2
    go_quiet (fail)
    go_wp2
    have bq : Below w.heap.size w (w.drewN nq).drew := (below_drewN (Below.refl _ _) nq).drew
    have cutd : RB (w.drewN nq).drew (some ⟨gb, at_, none⟩) m (c - at_) ((B.drop at_).take m) := cut.below bq
    have hd : Rd (w.drewN nq).drew g B at_ 0 := h.below bq
    have lt' : g < (w.drewN nq).drew.heap.size := lt
    go_region_held3 (fun w' => w'.cell? ⟨g, 0, none⟩ = some (.slice (some ⟨gb, 0, none⟩) n c) ∧ w'.cell? ⟨g, 1, none⟩ = some (.int .i64 (at_ : Int)))
      (first | exact ⟨k0, k1⟩ | go_keep)
      (first | (go_at_call 21; refine (Bytes_calls _ _ _ _ _ cutd (by omega)).mono ?_; rintro e w2 ⟨g2, c2', rfl, s2, o2, b2⟩; have k0 := (b2.cell (p := ⟨g, 0, none⟩) lt').trans c0; have k1 := (b2.cell (p := ⟨g, 1, none⟩) lt').trans c1))
    all_goals
      have hd2 := hd.below b2
      obtain ⟨gb', n', c'', q⟩ := hd2.laid
      have fr := q.f1
      have ne2 : g2 ≠ g := by omega
      go_wp2
      go_ret
      refine ⟨g2, c2', rfl, s2, o2.same (Sm.setCell _ _ _ ne2), hd2.setAtI _ _ e1.symm (by rw [HB.out]; exact hn), ?_⟩
      exact World.grownBy.trans ⟨b2.os.trans bq.os, b2.tape.trans bq.tape, b2.output.trans bq.output, Nat.le_trans bq.size b2.size, fun k hk _ => (b2.block k hk).trans (bq.block k hk)⟩ (grownBy_set _ _ _ _)
end Go.Proofs.Ytieoleiokjoccaa
