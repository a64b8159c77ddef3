/- The walk of the law WireLens. -/
import Derived.Test.YtnhmilpnekfhmaaVh
namespace Go.Proofs.Ytnhmilpnekfhmaa
open Go.RowKit

/-- What the law says of the bytes of a least form. -/
structure LeastBytes (L : List UInt8) (n : Nat) (x : Nat) : Prop where
  len : L.length = n
  n1 : 1 ≤ n
  n10 : n ≤ 10
  big : ∀ i (h : i < L.length), i + 1 < n → 128 ≤ L[i].toNat
  last : ∀ i (h : i < L.length), i + 1 = n → L[i].toNat < 128 ∧ (1 < n → L[i].toNat ≠ 0)
  num : un7 L = x
  below : x < 128 ^ n
  above : 1 < n → 128 ^ (n - 1) ≤ x
theorem least_bytes (x : Nat) (hx : x < 18446744073709551616) : LeastBytes (vF 9 x) (vF 9 x).length x := by
  obtain ⟨h1, h2, h3⟩ := vF_lead 9 x (lt64 hx) 10 (by omega) []
  rw [List.append_nil] at h1 h3
  have hl := vF_length 9 x
  have hlast : ∀ i (h : i < (vF 9 x).length), i + 1 = (vF 9 x).length → (vF 9 x)[i].toNat < 128 ∧ (1 < (vF 9 x).length → (vF 9 x)[i].toNat ≠ 0) := by
    intro i h hi
    obtain ⟨k1, k2, _⟩ := h3 (vF 9 x)[i] (by rw [show (vF 9 x).length - 1 = i by omega]; exact List.getElem?_eq_getElem h)
    refine ⟨k1, fun hn hz => k2 (by omega) (UInt8.toNat_inj.1 (by rw [hz]; rfl))⟩
  refine ⟨rfl, hl.1, hl.2, ?_, hlast, h2, ?_, ?_⟩
  · intro i h hi
    obtain ⟨b, hb, h128⟩ := lead_big 10 (vF 9 x) i (by rw [h1]; omega)
    rw [List.getElem?_eq_getElem h] at hb
    injection hb with hb
    rw [hb]; exact h128
  · have := un7_lt (vF 9 x)
    rwa [h2] at this
  · intro hn
    have hi : (vF 9 x).length - 1 < (vF 9 x).length := by omega
    have e := un7_take_succ (vF 9 x) ((vF 9 x).length - 1) hi
    rw [show (vF 9 x).length - 1 + 1 = (vF 9 x).length by omega, List.take_length, h2] at e
    obtain ⟨k1, k2⟩ := hlast _ hi (by omega)
    have k3 := k2 hn
    have hmod : 1 ≤ (vF 9 x)[(vF 9 x).length - 1].toNat % 128 := by omega
    have := Nat.mul_le_mul_left (128 ^ ((vF 9 x).length - 1)) hmod
    omega

theorem pow7 (n : Nat) : (2 : Int) ^ (7 * n) = ((128 ^ n : Nat) : Int) := by
  have : (2 : Nat) ^ (7 * n) = 128 ^ n := by rw [Nat.pow_mul]
  rw [← this, Int.natCast_pow]; rfl
theorem shr_zero {s n : Nat} (h : s < 128 ^ n) : (s : Int) / 2 ^ (7 * n) = 0 := by
  rw [pow7, ← Int.natCast_ediv, Nat.div_eq_of_lt h]; rfl
theorem shr_pos {s n : Nat} (h : 128 ^ n ≤ s) : 0 < (s : Int) / 2 ^ (7 * n) := by
  rw [pow7, ← Int.natCast_ediv]
  have := Nat.div_pos h (Nat.pow_pos (by decide))
  omega

set_option maxRecDepth 100000 in
set_option maxHeartbeats 4000000 in
theorem WireLens_walk (x : Nat) (w : World) (hxx : x < 18446744073709551616) :
    Calls Try.prog 5 #[.int .u64 (x : Int)] w fun e w' => e = .returned (.bool true) ∧ Below w.heap.size w w' := by
  obtain ⟨L, hL⟩ : ∃ L, vF 9 x = L := ⟨_, rfl⟩
  obtain ⟨n, hn⟩ : ∃ n, L.length = n := ⟨_, rfl⟩
  have Q := least_bytes x hxx
  rw [hL, hn] at Q
  have q1 := Q.n1
  have q10 := Q.n10
  have V := VLen_calls x
  have P := PutV_calls none 0 0 [] x
  rw [hL, hn] at V
  rw [List.nil_append, hL] at P
  have HQ := hideIt Q
  have LX := hideIt hxx
  clear hL hn hxx Q
  go_enter Try.func5, Try.ntmps5
  go_upto_region 2 with (go_at_call 10; refine (first_calls _).mono ?_; rintro e w1 ⟨rfl, b1⟩)
  go_upto_region 3 with (go_at_call 17; refine (P _ (RB.nil _) (by omega) LX.out).mono ?_; rintro en w2 ⟨g, m2, c, rfl, s2, o2, x2⟩)
  obtain rfl : n = m2 := by have := o2.len; rw [HQ.out.len] at this; exact this
  have b2 := b1.trans (x2.mono b1.size)
  clear b1 x2 s2 P
  have i1 : (1 : Int) ≤ (n : Int) := by omega
  have i2 : (n : Int) ≤ 10 := by omega
  go_wp2_with (go_at_call 18; refine (V _ LX.out).mono ?_; rintro en wx ⟨rfl, rfl⟩)
  go_loopw [6, 7] (fun ss ii wr => ∃ (k s : Nat) (i : Int), k ≤ n ∧ i = (k : Int) - 1 ∧ ss = .int .u64 (s : Int) ∧ ii = .int .i64 i ∧ Hid (s = un7 (L.drop k)) ∧ w2 = wr)
    (fun _ ii _ => (intOf ii + 1).toNat)
  case atStart => exact ⟨n, 0, _, Nat.le_refl _, rfl, rfl, by go_num, by unfold Hid; rw [List.drop_of_length_le (by rw [HQ.out.len]; exact Nat.le_refl _)]; rfl, by trivial⟩
  case round =>
    obtain ⟨k, s, i, hk, hi, rfl, rfl, HS, rfl⟩ := hrel
    rcases Nat.eq_zero_or_pos k with hk0 | hk0
    · subst hk0
      obtain rfl : i = -1 := by omega
      obtain rfl : s = x := by rw [HS.out, List.drop_zero, HQ.out.num]
      clear hi
      have hbel := HQ.out.below
      have habv := HQ.out.above
      by_cases h10 : n = 10
      · have e10 : ((n : Int) == 10) = true := by rw [beq_iff_eq]; omega
        have e1 : ((n : Int) == 1) = false := by rw [beq_eq_false_iff_ne]; omega
        have FA := hideIt (shr_pos (habv (by omega)))
        clear hbel habv h10
        go_wp2
        go_ret
        exact ⟨ret_bool (decide_eq_true FA.out), b2⟩
      · have e10 : ((n : Int) == 10) = false := by rw [beq_eq_false_iff_ne]; omega
        by_cases h1 : n = 1
        · have e1 : ((n : Int) == 1) = true := by rw [beq_iff_eq]; omega
          have fb := shr_zero hbel
          clear hbel habv h10 h1
          go_wp2
          go_ret
          exact ⟨rfl, b2⟩
        · have e1 : ((n : Int) == 1) = false := by rw [beq_eq_false_iff_ne]; omega
          have fb := shr_zero hbel
          have FA := hideIt (shr_pos (habv (by omega)))
          clear hbel habv h10 h1
          go_wp2
          go_ret
          exact ⟨ret_bool (decide_eq_true FA.out), b2⟩
    · obtain ⟨m, rfl⟩ : ∃ m, k = m + 1 := ⟨k - 1, by omega⟩
      obtain rfl : i = (m : Int) := by omega
      clear hi hk0
      have hml : m < L.length := by rw [HQ.out.len]; omega
      have cell := o2.cell m hml
      have und := un7_drop L m hml
      rw [← HS.out] at und
      have hbig := HQ.out.big m hml
      have hlst := HQ.out.last m hml
      have le1 := un7_drop_le L m
      rw [HQ.out.num] at le1
      generalize L[m] = b at cell und hbig hlst
      have hb := b.toNat_lt
      have hx64 := LX.out
      have w1' : IntKind.u64.wrap ((s : Int) * 128) = (s : Int) * 128 := by rw [IntKind.wrap_u64]; omega
      have w2' : IntKind.u64.wrap ((s : Int) * 128 + (b.toNat : Int) % 128) = (s : Int) * 128 + (b.toNat : Int) % 128 := by rw [IntKind.wrap_u64]; omega
      have HU := hideIt und
      have mi : (m : Int) < (n : Int) := by omega
      by_cases hlast : m + 1 = n
      · have hl := hlst hlast
        have e5 : ((m : Int) == (n : Int) - 1) = true := by rw [beq_iff_eq]; omega
        have hsm : (b.toNat : Int) < 128 := by omega
        by_cases hn1 : n = 1
        · have e6 : decide ((1 : Int) < (n : Int)) = false := decide_eq_false (by omega)
          clear und hbig hlst le1 hl hlast hx64 hn1
          go_wp2
          go_roundw
          case rel => exact ⟨m, _, _, by omega, by go_num, congrArg (Value.int .u64) (by have := HU.out; omega), rfl, hideIt rfl, by trivial⟩
          case measure => simp [intOf]
        · have e6 : (1 : Int) < (n : Int) := by omega
          have e7 : ((b.toNat : Int) == 0) = false := by rw [beq_eq_false_iff_ne]; have := hl.2 (by omega); omega
          clear und hbig hlst le1 hl hlast hx64 hn1
          go_wp2
          go_roundw
          case rel => exact ⟨m, _, _, by omega, by go_num, congrArg (Value.int .u64) (by have := HU.out; omega), rfl, hideIt rfl, by trivial⟩
          case measure => simp [intOf]
      · have hl := hbig (by omega)
        have e5 : ((m : Int) == (n : Int) - 1) = false := by rw [beq_eq_false_iff_ne]; omega
        have hbi : (128 : Int) ≤ (b.toNat : Int) := by omega
        clear und hbig hlst le1 hl hlast hx64
        go_wp2
        go_roundw
        case rel => exact ⟨m, _, _, by omega, by go_num, congrArg (Value.int .u64) (by have := HU.out; omega), rfl, hideIt rfl, by trivial⟩
        case measure => simp [intOf]
end Go.Proofs.Ytnhmilpnekfhmaa
