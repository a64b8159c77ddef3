/- The contracts of wire.PutV, wire.VLen and the document's. -/
import Derived.Test.YtieoleiokjoccaaWq
import Derived.Test.YtieoleiokjoccaaWa
import Derived.Test.YtieoleiokjoccaaWb
import Derived.Test.YtieoleiokjoccaaLit
import Derived.Laws.BitsAllLaws
namespace Go.Proofs.Ytieoleiokjoccaa
open Go.RowKit

theorem or128 : ∀ a : Fin 256, a.val ||| 128 = a.val % 128 + 128 := by decide +kernel
theorem byte_hi (v : Nat) : bits .or .u8 ((v : Int) % 256) 128 = (((UInt8.ofNat (v % 128 + 128)).toNat : Nat) : Int) := by
  have e0 : (v : Int) % 256 = ((v % 256 : Nat) : Int) := by omega
  have h := u8_or_nat (v % 256) 128 (by omega) (by decide)
  have o := or128 ⟨v % 256, by omega⟩
  simp only at o
  rw [o] at h
  rw [e0]
  refine Eq.trans h ?_
  rw [byte_ofNat (by omega)]
  omega
theorem byte_lo (v : Nat) (h : v < 128) : (v : Int) % 256 = (((UInt8.ofNat v).toNat : Nat) : Int) := by rw [byte_ofNat (by omega)]; omega
theorem vf_step {ys T : List UInt8} {k v : Nat} {b : UInt8} (h : Hid (ys ++ vF (k + 1) v = T)) (hv : 128 ≤ v) (hb : Hid (b = UInt8.ofNat (v % 128 + 128))) : Hid (ys ++ [b] ++ vF k (v / 128) = T) := by
  have e := h.out
  rw [vF_big _ _ hv, ← hb.out] at e
  unfold Hid
  rw [← e, List.append_assoc]
  rfl
theorem vf_last {ys T : List UInt8} {k v : Nat} {b : UInt8} (h : Hid (ys ++ vF k v = T)) (hv : v < 128) (hb : Hid (b = UInt8.ofNat v)) : Hid (ys ++ [b] = T) := by
  have e := h.out
  rw [vF_small _ _ hv, ← hb.out] at e
  exact e
theorem vf_down {k v : Nat} (h : Hid (v < 2 * 128 ^ (k + 1))) : Hid (v / 128 < 2 * 128 ^ k) := by
  have e := h.out
  have hp : 2 * 128 ^ (k + 1) = 128 * (2 * 128 ^ k) := by rw [Nat.pow_succ]; omega
  unfold Hid
  omega
theorem vf_zero {v : Nat} (h : Hid (v < 2 * 128 ^ 0)) : v < 2 := by have := h.out; omega
theorem vlen_step {k v m T : Nat} (h : Hid (m + (vF (k + 1) v).length = T)) (hv : 128 ≤ v) : Hid (m + 1 + (vF k (v / 128)).length = T) := by
  have e := h.out
  rw [vF_big _ _ hv, List.length_cons] at e
  unfold Hid; omega
theorem vlen_last {k v m T : Nat} (h : Hid (m + (vF k v).length = T + 1)) (hv : v < 128) : m = T := by
  have e := h.out
  rw [vF_small _ _ hv] at e
  simp at e
  omega

set_option maxRecDepth 100000 in
set_option maxHeartbeats 1000000 in
theorem PutV_calls (A : Option Addr) (n c : Nat) (xs : List UInt8) (x : Nat) (w : World) (hx : RB w A n c xs) (hb : n ≤ 140737488351200) (hxx : x < 18446744073709551616) :
    Calls Try.prog 30 #[.slice A n c, .int .u64 (x : Int)] w fun e w' => ∃ g m c', e = .returned (.slice (some ⟨g, 0, none⟩) m c') ∧ w.heap.size ≤ g ∧ OB w' g m c' (xs ++ vF 9 x) ∧ Below w.heap.size w w' := by
  have hx9 := hideIt (lt64 hxx)
  go_enter Try.func30, Try.ntmps30
  go_wp2_with (go_at_call 56; refine (grown_calls _ _ _ 10 _ _ hx (by omega)).mono ?_; rintro e w1 ⟨g1, rfl, s1, o1, b1⟩)
  go_loopw [1, 5] (fun vv bb wr => ∃ (k v m g c' : Nat) (ys : List UInt8), k ≤ 9 ∧ m + k = n + 9 ∧ vv = .int .u64 (v : Int) ∧ v < 18446744073709551616 ∧ Hid (v < 2 * 128 ^ k) ∧ bb = .slice (some ⟨g, 0, none⟩) m c' ∧ w.heap.size ≤ g ∧ OB wr g m c' ys ∧ Hid (ys ++ vF k v = xs ++ vF 9 x) ∧ Below w.heap.size w wr)
    (fun vv _ _ => (intOf vv).toNat)
  case atStart => exact ⟨9, x, n, g1, _, xs, by omega, rfl, rfl, hxx, hx9, rfl, s1, o1, hideIt rfl, b1⟩
  case round =>
    obtain ⟨k, v, m, g, c', ys, hk, hmk, rfl, hv, HK, rfl, sg, og, HY, bw⟩ := hrel
    by_cases hbig : 128 ≤ v
    · match k, hk, HK, HY, hmk with
      | 0, _, HK, _, _ => exact absurd (vf_zero HK) (by omega)
      | k + 1, hk, HK, HY, hmk =>
        have h1 := byte_hi v
        obtain ⟨b, hbv⟩ : ∃ b, b = UInt8.ofNat (v % 128 + 128) := ⟨_, rfl⟩
        rw [← hbv] at h1
        have HS := vf_step HY hbig (hideIt hbv)
        have HD := vf_down HK
        obtain ⟨q, hq⟩ : ∃ q, v / 128 = q := ⟨_, rfl⟩
        have hq1 : (v : Int) / 128 = (q : Int) := by omega
        have hq2 : q < v := by omega
        rw [hq] at HS HD
        have hbi : (128 : Int) ≤ (v : Int) := by omega
        clear hbv hq
        go_wp2_with (at_builtin; have o2 := og.below ((Below.refl _ _).alloc (Nat.le_refl _) (.cells (u8s [b]).toArray 5)); refine wpB_app rfl _ _ rfl _ _ _ _ rfl o2 _ _ _ [b] rfl (RB.lit wr [b] 1 rfl (by simp [maxLen])).read (m + 1) (by omega) (by omega) ?_; intro g4 c4 w4 q4 p4 o4 k4; have lg := og.lt; have z4 := bw.size; have b4 := (bw.alloc z4 (.cells (u8s [b]).toArray 5)).grown k4 (by simp; omega) (by simp; omega))
        go_roundw
        case rel =>
          have q4' : g4 = g ∨ wr.heap.size + 1 ≤ g4 := by simpa using q4
          exact ⟨k, q, m + 1, g4, c4, _, by omega, by omega, rfl, by omega, HD, rfl, by omega, o4, HS, b4⟩
        case measure => simp [intOf]; omega
    · obtain ⟨b, rfl⟩ : ∃ b : UInt8, v = b.toNat := ⟨UInt8.ofNat v, (byte_ofNat (by omega)).symm⟩
      have hlo : (b.toNat : Int) % 256 = (b.toNat : Int) := by have := b.toNat_lt; omega
      have HE := vf_last HY (by omega) (hideIt UInt8.ofNat_toNat.symm)
      have hsm : (b.toNat : Int) < 128 := by omega
      go_wp2_with (at_builtin; have o2 := og.below ((Below.refl _ _).alloc (Nat.le_refl _) (.cells (u8s [b]).toArray 5)); refine wpB_app rfl _ _ rfl _ _ _ _ rfl o2 _ _ _ [b] rfl (RB.lit wr [b] 1 rfl (by simp [maxLen])).read (m + 1) (by omega) (by omega) ?_; intro g4 c4 w4 q4 p4 o4 k4; have lg := og.lt; have z4 := bw.size; have b4 := (bw.alloc z4 (.cells (u8s [b]).toArray 5)).grown k4 (by simp; omega) (by simp; omega))
      have q4' : g4 = g ∨ wr.heap.size + 1 ≤ g4 := by simpa using q4
      rw [HE.out] at o4
      go_ret
      exact ⟨g4, m + 1, c4, rfl, by omega, o4, b4⟩

set_option maxRecDepth 100000 in
set_option maxHeartbeats 1000000 in
theorem refPutV_calls (A : Option Addr) (n c : Nat) (xs : List UInt8) (x : Nat) (w : World) (hx : RB w A n c xs) (hb : n ≤ 140737488351200) (hxx : x < 18446744073709551616) :
    Calls Try.prog 61 #[.slice A n c, .int .u64 (x : Int)] w fun e w' => ∃ g m c', e = .returned (.slice (some ⟨g, 0, none⟩) m c') ∧ w.heap.size ≤ g ∧ OB w' g m c' (xs ++ vF 9 x) ∧ Below w.heap.size w w' := by
  have hx9 := hideIt (lt64 hxx)
  go_enter Try.func61, Try.ntmps61
  go_wp2_with (go_at_call 21; refine (Bytes_calls _ _ _ _ _ hx (by omega)).mono ?_; rintro e w1 ⟨g1, c1, rfl, s1, o1, b1⟩)
  go_loopw [1, 5] (fun vv bb wr => ∃ (k v m g c' : Nat) (ys : List UInt8), k ≤ 9 ∧ m + k = n + 9 ∧ vv = .int .u64 (v : Int) ∧ v < 18446744073709551616 ∧ Hid (v < 2 * 128 ^ k) ∧ bb = .slice (some ⟨g, 0, none⟩) m c' ∧ w.heap.size ≤ g ∧ OB wr g m c' ys ∧ Hid (ys ++ vF k v = xs ++ vF 9 x) ∧ Below w.heap.size w wr)
    (fun vv _ _ => (intOf vv).toNat)
  case atStart => exact ⟨9, x, n, g1, _, xs, by omega, rfl, rfl, hxx, hx9, rfl, s1, o1, hideIt rfl, b1⟩
  case round =>
    obtain ⟨k, v, m, g, c', ys, hk, hmk, rfl, hv, HK, rfl, sg, og, HY, bw⟩ := hrel
    by_cases hbig : 128 ≤ v
    · match k, hk, HK, HY, hmk with
      | 0, _, HK, _, _ => exact absurd (vf_zero HK) (by omega)
      | k + 1, hk, HK, HY, hmk =>
        have h1 := byte_hi v
        obtain ⟨b, hbv⟩ : ∃ b, b = UInt8.ofNat (v % 128 + 128) := ⟨_, rfl⟩
        rw [← hbv] at h1
        have HS := vf_step HY hbig (hideIt hbv)
        have HD := vf_down HK
        obtain ⟨q, hq⟩ : ∃ q, v / 128 = q := ⟨_, rfl⟩
        have hq1 : (v : Int) / 128 = (q : Int) := by omega
        have hq2 : q < v := by omega
        rw [hq] at HS HD
        have hbi : (128 : Int) ≤ (v : Int) := by omega
        have h2 : (v : Int) % 128 + 128 = (b.toNat : Int) := by rw [hbv, byte_ofNat (by omega)]; omega
        clear hbv hq
        go_wp2_with (at_builtin; have o2 := og.below ((Below.refl _ _).alloc (Nat.le_refl _) (.cells (u8s [b]).toArray 5)); refine wpB_app rfl _ _ rfl _ _ _ _ rfl o2 _ _ _ [b] rfl (RB.lit wr [b] 1 rfl (by simp [maxLen])).read (m + 1) (by omega) (by omega) ?_; intro g4 c4 w4 q4 p4 o4 k4; have lg := og.lt; have z4 := bw.size; have b4 := (bw.alloc z4 (.cells (u8s [b]).toArray 5)).grown k4 (by simp; omega) (by simp; omega))
        go_roundw
        case rel =>
          have q4' : g4 = g ∨ wr.heap.size + 1 ≤ g4 := by simpa using q4
          exact ⟨k, q, m + 1, g4, c4, _, by omega, by omega, rfl, by omega, HD, rfl, by omega, o4, HS, b4⟩
        case measure => simp [intOf]; omega
    · obtain ⟨b, rfl⟩ : ∃ b : UInt8, v = b.toNat := ⟨UInt8.ofNat v, (byte_ofNat (by omega)).symm⟩
      have hlo : (b.toNat : Int) % 256 = (b.toNat : Int) := by have := b.toNat_lt; omega
      have HE := vf_last HY (by omega) (hideIt UInt8.ofNat_toNat.symm)
      have hsm : (b.toNat : Int) < 128 := by omega
      go_wp2_with (at_builtin; have o2 := og.below ((Below.refl _ _).alloc (Nat.le_refl _) (.cells (u8s [b]).toArray 5)); refine wpB_app rfl _ _ rfl _ _ _ _ rfl o2 _ _ _ [b] rfl (RB.lit wr [b] 1 rfl (by simp [maxLen])).read (m + 1) (by omega) (by omega) ?_; intro g4 c4 w4 q4 p4 o4 k4; have lg := og.lt; have z4 := bw.size; have b4 := (bw.alloc z4 (.cells (u8s [b]).toArray 5)).grown k4 (by simp; omega) (by simp; omega))
      have q4' : g4 = g ∨ wr.heap.size + 1 ≤ g4 := by simpa using q4
      rw [HE.out] at o4
      go_ret
      exact ⟨g4, m + 1, c4, rfl, by omega, o4, b4⟩

set_option maxRecDepth 100000 in
set_option maxHeartbeats 1000000 in
theorem VLen_calls (x : Nat) (w : World) (hxx : x < 18446744073709551616) :
    Calls Try.prog 33 #[.int .u64 (x : Int)] w fun e w' => e = .returned (.int .i64 ((vF 9 x).length : Nat)) ∧ w = w' := by
  have hx9 := hideIt (lt64 hxx)
  have hl9 := (vF_length 9 x).2
  generalize hT : (vF 9 x).length = T at *
  have HT := hideIt hT
  clear hT
  go_enter Try.func33, Try.ntmps33
  go_wp2
  go_loopw [0, 3] (fun vv nn wr => ∃ (k v m : Nat), k ≤ 9 ∧ m + k = 10 ∧ vv = .int .u64 (v : Int) ∧ v < 18446744073709551616 ∧ Hid (v < 2 * 128 ^ k) ∧ nn = .int .i64 (m : Int) ∧ Hid (m + (vF k v).length = T + 1) ∧ w = wr)
    (fun vv _ _ => (intOf vv).toNat)
  case atStart => exact ⟨9, x, 1, by omega, rfl, rfl, hxx, hx9, rfl, by unfold Hid; rw [HT.out]; omega, rfl⟩
  case round =>
    obtain ⟨k, v, m, hk, hmk, rfl, hv, HK, rfl, HY, rfl⟩ := hrel
    by_cases hbig : 128 ≤ v
    · match k, hk, HK, HY, hmk with
      | 0, _, HK, _, _ => exact absurd (vf_zero HK) (by omega)
      | k + 1, hk, HK, HY, hmk =>
        have HS := vlen_step HY hbig
        have HD := vf_down HK
        obtain ⟨q, hq⟩ : ∃ q, v / 128 = q := ⟨_, rfl⟩
        have hq1 : (v : Int) / 128 = (q : Int) := by omega
        have hq2 : q < v := by omega
        rw [hq] at HS HD
        have hbi : (128 : Int) ≤ (v : Int) := by omega
        clear hq
        go_wp2
        go_roundw
        case rel => exact ⟨k, q, m + 1, by omega, by omega, rfl, by omega, HD, by go_num, HS, by trivial⟩
        case measure => simp [intOf]; omega
    · have he := vlen_last HY (by omega)
      subst he
      have hsm : (v : Int) < 128 := by omega
      go_wp2
      go_ret
      first | exact ⟨rfl, rfl⟩ | exact ⟨rfl, trivial⟩

set_option maxRecDepth 100000 in
set_option maxHeartbeats 1000000 in
theorem refVLen_calls (x : Nat) (w : World) (hxx : x < 18446744073709551616) :
    Calls Try.prog 37 #[.int .u64 (x : Int)] w fun e w' => e = .returned (.int .i64 ((vF 9 x).length : Nat)) ∧ w = w' := by
  have hx9 := hideIt (lt64 hxx)
  have hl9 := (vF_length 9 x).2
  generalize hT : (vF 9 x).length = T at *
  have HT := hideIt hT
  clear hT
  go_enter Try.func37, Try.ntmps37
  go_wp2
  go_loopw [0, 3] (fun vv nn wr => ∃ (k v m : Nat), k ≤ 9 ∧ m + k = 10 ∧ vv = .int .u64 (v : Int) ∧ v < 18446744073709551616 ∧ Hid (v < 2 * 128 ^ k) ∧ nn = .int .i64 (m : Int) ∧ Hid (m + (vF k v).length = T + 1) ∧ w = wr)
    (fun vv _ _ => (intOf vv).toNat)
  case atStart => exact ⟨9, x, 1, by omega, rfl, rfl, hxx, hx9, rfl, by unfold Hid; rw [HT.out]; omega, rfl⟩
  case round =>
    obtain ⟨k, v, m, hk, hmk, rfl, hv, HK, rfl, HY, rfl⟩ := hrel
    by_cases hbig : 128 ≤ v
    · match k, hk, HK, HY, hmk with
      | 0, _, HK, _, _ => exact absurd (vf_zero HK) (by omega)
      | k + 1, hk, HK, HY, hmk =>
        have HS := vlen_step HY hbig
        have HD := vf_down HK
        obtain ⟨q, hq⟩ : ∃ q, v / 128 = q := ⟨_, rfl⟩
        have hq1 : (v : Int) / 128 = (q : Int) := by omega
        have hq2 : q < v := by omega
        rw [hq] at HS HD
        have hbi : (128 : Int) ≤ (v : Int) := by omega
        clear hq
        go_wp2
        go_roundw
        case rel => exact ⟨k, q, m + 1, by omega, by omega, rfl, by omega, HD, by go_num, HS, by trivial⟩
        case measure => simp [intOf]; omega
    · have he := vlen_last HY (by omega)
      subst he
      have hsm : (v : Int) < 128 := by omega
      go_wp2
      go_ret
      first | exact ⟨rfl, rfl⟩ | exact ⟨rfl, trivial⟩
end Go.Proofs.Ytieoleiokjoccaa
