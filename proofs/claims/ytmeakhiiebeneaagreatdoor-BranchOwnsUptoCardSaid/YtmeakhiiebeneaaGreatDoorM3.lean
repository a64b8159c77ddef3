/- Laws for make with room, and the contract of wire.grown. -/
import Derived.Test.YtmeakhiiebeneaaGreatDoorB
import Derived.Test.YtmeakhiiebeneaaGreatDoorM1
import Derived.Laws.BitsAllLaws
import Derived.Deep.RegionLaw
namespace Go.Proofs.YtmeakhiiebeneaaGreatDoor
open Go.RowKit

section
variable {w : World} {ops : Array Oper} {rest : List Oper} {o : Oper} {a : Act} {Q : Exit → Act → World → Prop}
theorem wpB_room (hg : o.guard = none) (l c : Operand) (hop : o.op = Op.makeSlice 40 l c) (kl kc : IntKind) (L C : Int) (n m : Nat) (hl : a.eval l = .int kl L) (hc : a.eval c = .int kc C) (hL : L = (n : Int)) (hC : C = (m : Int)) (hnm : n ≤ m) (hn : m ≤ 140737488355328)
    (h : ∀ g w', w.heap.size ≤ g → OB w' g n m (zeros n) → w.grownBy w' none → wpList Tryz.prog ops Q rest (a.put o.dst (.slice (some ⟨g, 0, none⟩) n m)) w') : wpList Tryz.prog ops Q (o :: rest) a w := by
  obtain ⟨i0, hi, hz0, hz1, hz2⟩ := info_parts info_u8
  subst hL hC
  have hr := run_make (P := Tryz.prog) w 40 5 i0 (.int .u8 0) Tryz.underlying40 hi hz0 kl kc n m (by omega) (by omega) (by rw [hz2]; omega) (by omega)
  refine wpList_plain hg fun K hK' => ?_
  unfold Oper.wp
  simp only [Int.toNat_natCast] at hr
  simp [execOp, hop, hl, hc, hr, Result.andThen]
  refine hK' _ _ (h _ _ (Nat.le_refl _) ?_ (World.grownBy_alloc w _ none))
  rw [hz1, Nat.mul_one]
  have e : (madeCells (Value.cells (.int .u8 0)) m).toList = u8s (zeros m) := by
    have := toList_madeCells_one (.int .u8 0) m
    unfold zeros
    rw [u8s_zeros]
    exact this
  refine OC.mk (by rw [u8s_length, zeros_length, Nat.mul_one]) _ (heap_alloc_new w _) hnm (by rw [maxLen_is]; omega) (by rw [Nat.mul_one, ← Array.length_toList, e, u8s_length, zeros_length]) ?_
  rw [e, Nat.mul_one, u8s_take]
  unfold zeros
  rw [List.take_replicate, Nat.min_eq_left hnm]
end

set_option maxHeartbeats 400000 in
theorem grown_calls (A : Option Addr) (n c m : Nat) (xs : List UInt8) (w : World) (hx : RB w A n c xs) (hb : n + m ≤ 140737488355328) :
    Calls Tryz.prog 78 #[.slice A n c, .int .i64 (m : Int)] w fun e w' => ∃ g, e = .returned (.slice (some ⟨g, 0, none⟩) n (n + m)) ∧ w.heap.size ≤ g ∧ OB w' g n (n + m) xs ∧ Below w.heap.size w w' := by
  have HL := hideIt hx.len
  go_enter Tryz.func78, Tryz.ntmps78
  go_wp2_with (first
    | (at_make; refine wpB_room rfl _ _ rfl _ _ _ _ n (n + m) rfl rfl rfl (by omega) (by omega) (by omega) ?_; intro g1 w1 s1 o1 k1; have b1 := below_of_grown k1 (Nat.le_refl _) (by simp); have h1 := hx.below b1; have z1 := k1.size; have l1 := o1.lt)
    | (with_reducible refine wpB_copy rfl (.tmp 13) (.tmp 14) rfl _ _ _ rfl _ _ _ rfl _ _ _ 0 _ _ o1 h1 n (Nat.min_self n).symm (fun _ => rfl) (by omega) ?_; intro w2 o2 k2))
  go_ret
  have e : (zeros n).take 0 ++ (xs.take n ++ (zeros n).drop (0 + n)) = xs := by
    rw [List.take_zero, List.nil_append, Nat.zero_add, List.drop_of_length_le (by rw [zeros_length]; exact Nat.le_refl _), List.append_nil, List.take_of_length_le (by rw [HL.out]; exact Nat.le_refl _)]
  rw [e] at o2
  exact ⟨g1, rfl, by omega, o2, b1.grown k2 z1 (by simp; omega)⟩
end Go.Proofs.YtmeakhiiebeneaaGreatDoor
/- Plain laws for the loops of wire.width and wire.Put. -/
namespace Go.Proofs.YtmeakhiiebeneaaGreatDoor
open Go.RowKit

/-- a number of j bytes that are all 255. -/
def ones (j : Nat) : Nat := 256 ^ j - 1
theorem ones_top1 : ones 1 = 255 := by decide
theorem ones_top2 : ones 2 = 65535 := by decide
theorem ones_top4 : ones 4 = 4294967295 := by decide
theorem ones_top8 : ones 8 = 18446744073709551615 := by decide
theorem ones_zero : (ones 0 : Int) = 0 := rfl
theorem ones_pos (j : Nat) : (0 : Int) < (ones (j + 1) : Int) := by
  have : 0 < 256 ^ j := Nat.pow_pos (by decide)
  have e : 256 ^ (j + 1) = 256 * 256 ^ j := by rw [Nat.pow_succ, Nat.mul_comm]
  unfold ones
  omega
theorem ones_div (j : Nat) : (ones (j + 1) : Int) / 256 = (ones j : Int) := by
  have : 0 < 256 ^ j := Nat.pow_pos (by decide)
  have e : 256 ^ (j + 1) = 256 * 256 ^ j := by rw [Nat.pow_succ, Nat.mul_comm]
  unfold ones
  omega
theorem ones_le (j : Nat) (h : j + 1 ≤ 8) : (ones (j + 1) : Int) ≤ 18446744073709551615 := by
  have : 256 ^ (j + 1) ≤ 256 ^ 8 := Nat.pow_le_pow_right (by decide) h
  have e : 256 ^ 8 = 18446744073709551616 := by decide
  unfold ones
  omega
structure LowByte (v : Nat) (b : UInt8) (q : Nat) : Prop where
  byte : b = UInt8.ofNat (v % 256)
  next : q = v / 256
theorem low_byte (v : Nat) : ∃ (b : UInt8) (q : Nat), (v : Int) % 256 = (b.toNat : Int) ∧ (v : Int) / 256 = (q : Int) ∧ Hid (LowByte v b q ∧ q ≤ v) := by
  refine ⟨UInt8.ofNat (v % 256), v / 256, ?_, by omega, ⟨rfl, rfl⟩, Nat.div_le_self _ _⟩
  rw [UInt8.toNat_ofNat']; omega
theorem put_step {xs ys : List UInt8} {x k v q : Nat} {b : UInt8} (h : Hid (ys = xs ++ leB x k)) (hv : Hid (v = x / 256 ^ k)) (hb : Hid (LowByte v b q ∧ q ≤ v)) : Hid (ys ++ [b] = xs ++ leB x (k + 1)) := by
  have e1 := h.out; have e2 := hv.out; have e3 := hb.out.1.byte
  subst e1 e2 e3
  unfold Hid
  rw [leB_snoc, List.append_assoc]
theorem put_next {x k v q : Nat} {b : UInt8} (hv : Hid (v = x / 256 ^ k)) (hb : Hid (LowByte v b q ∧ q ≤ v)) : Hid (q = x / 256 ^ (k + 1)) := by
  have e2 := hv.out; have e3 := hb.out.1.next
  unfold Hid
  rw [e3, e2, Nat.div_div_eq_div_mul, Nat.pow_succ]
end Go.Proofs.YtmeakhiiebeneaaGreatDoor
namespace Go.Proofs.YtmeakhiiebeneaaGreatDoor
open Go.RowKit

set_option maxRecDepth 100000 in
set_option maxHeartbeats 1000000 in
theorem refPut_calls (A : Option Addr) (n c : Nat) (xs : List UInt8) (x W : Nat) (w : World) (hx : RB w A n c xs) (hb : n ≤ 140737488351232) (hW : W ≤ 8) (_hxx : x < 18446744073709551616) :
    Calls Tryz.prog 174 #[.slice A n c, .int .u64 (x : Int), .int .i64 (W : Int)] w fun e w' => ∃ g c', e = .returned (.slice (some ⟨g, 0, none⟩) (n + W) c') ∧ w.heap.size ≤ g ∧ OB w' g (n + W) c' (xs ++ leB x W) ∧ Below w.heap.size w w' := by
  go_enter Tryz.func174, Tryz.ntmps174
  go_wp2_with (go_at_call 22; refine (Bytes_calls _ _ _ _ _ hx (by omega)).mono ?_; rintro e w1 ⟨g1, c1, rfl, s1, o1, b1⟩)
  go_loopw [7, 8] (fun bb ii wr => ∃ (k g c' : Nat) (ys : List UInt8), k ≤ W ∧ bb = .slice (some ⟨g, 0, none⟩) (n + k) c' ∧ ii = .int .i64 (k : Int) ∧ w.heap.size ≤ g ∧ OB wr g (n + k) c' ys ∧ Hid (ys = xs ++ leB x k) ∧ Below w.heap.size w wr)
    (fun _ ii _ => W - (intOf ii).toNat)
  case atStart => exact ⟨0, g1, _, xs, by omega, rfl, rfl, s1, o1, by unfold Hid; simp [leB], b1⟩
  case round =>
    obtain ⟨k, g, c', ys, hk, rfl, rfl, sg, og, HY, bw⟩ := hrel
    by_cases hlt : k < W
    · obtain ⟨v, hv⟩ : ∃ v, v = x / 256 ^ k := ⟨_, rfl⟩
      have hsh := shift_bytes x k
      rw [← hv] at hsh
      have HV := hideIt hv
      clear hv
      obtain ⟨b, q, hb1, -, HB⟩ := low_byte v
      have H1 := put_step HY HV HB
      go_wp2_with (at_builtin; have o2 := og.below ((Below.refl _ _).alloc (Nat.le_refl _) (.cells (u8s [b]).toArray 5)); refine wpB_app rfl _ _ rfl _ _ _ _ rfl o2 _ _ _ [b] rfl (RB.lit wr [b] 1 rfl (by simp [maxLen])).read (n + (k + 1)) (by omega) (by omega) ?_; intro g4 c4 w4 q4 p4 o4 k4; have lg := og.lt; have z4 := bw.size; have b4 := (bw.alloc z4 (.cells (u8s [b]).toArray 5)).grown k4 (by simp; omega) (by simp; omega))
      go_roundw
      case rel =>
        have q4' : g4 = g ∨ wr.heap.size + 1 ≤ g4 := by simpa using q4
        exact ⟨k + 1, g4, c4, _, by omega, rfl, by go_num, by omega, o4, H1, b4⟩
      case measure => simp [intOf]; omega
    · obtain rfl : k = W := by omega
      go_wp2
      go_ret
      exact ⟨g, c', rfl, sg, by rw [← HY.out]; exact og, bw⟩
end Go.Proofs.YtmeakhiiebeneaaGreatDoor
namespace Go.Proofs.YtmeakhiiebeneaaGreatDoor
open Go.RowKit

theorem or128 : ∀ a : Fin 256, a.val ||| 128 = a.val % 128 + 128 := by decide +kernel
theorem byte_hi (v : Nat) : bits .or .u8 ((v : Int) % 256) 128 = (((UInt8.ofNat (v % 128 + 128)).toNat : Nat) : Int) := by
  have e0 : (v : Int) % 256 = ((v % 256 : Nat) : Int) := by omega
  have h := u8_or_nat (v % 256) 128 (by omega) (by decide)
  have o := or128 ⟨v % 256, by omega⟩
  simp only at o
  rw [o] at h
  rw [e0]
  refine Eq.trans h ?_
  rw [byte_ofNat (by omega)]
  omega
theorem byte_lo (v : Nat) (h : v < 128) : (v : Int) % 256 = (((UInt8.ofNat v).toNat : Nat) : Int) := by rw [byte_ofNat (by omega)]; omega
theorem vf_step {ys T : List UInt8} {k v : Nat} {b : UInt8} (h : Hid (ys ++ vF (k + 1) v = T)) (hv : 128 ≤ v) (hb : Hid (b = UInt8.ofNat (v % 128 + 128))) : Hid (ys ++ [b] ++ vF k (v / 128) = T) := by
  have e := h.out
  rw [vF_big _ _ hv, ← hb.out] at e
  unfold Hid
  rw [← e, List.append_assoc]
  rfl
theorem vf_last {ys T : List UInt8} {k v : Nat} {b : UInt8} (h : Hid (ys ++ vF k v = T)) (hv : v < 128) (hb : Hid (b = UInt8.ofNat v)) : Hid (ys ++ [b] = T) := by
  have e := h.out
  rw [vF_small _ _ hv, ← hb.out] at e
  exact e
theorem vf_down {k v : Nat} (h : Hid (v < 2 * 128 ^ (k + 1))) : Hid (v / 128 < 2 * 128 ^ k) := by
  have e := h.out
  have hp : 2 * 128 ^ (k + 1) = 128 * (2 * 128 ^ k) := by rw [Nat.pow_succ]; omega
  unfold Hid
  omega
theorem vf_zero {v : Nat} (h : Hid (v < 2 * 128 ^ 0)) : v < 2 := by have := h.out; omega
theorem vlen_step {k v m T : Nat} (h : Hid (m + (vF (k + 1) v).length = T)) (hv : 128 ≤ v) : Hid (m + 1 + (vF k (v / 128)).length = T) := by
  have e := h.out
  rw [vF_big _ _ hv, List.length_cons] at e
  unfold Hid; omega
theorem vlen_last {k v m T : Nat} (h : Hid (m + (vF k v).length = T + 1)) (hv : v < 128) : m = T := by
  have e := h.out
  rw [vF_small _ _ hv] at e
  simp at e
  omega

set_option maxRecDepth 100000 in
set_option maxHeartbeats 1000000 in
theorem PutV_calls (A : Option Addr) (n c : Nat) (xs : List UInt8) (x : Nat) (w : World) (hx : RB w A n c xs) (hb : n ≤ 140737488351200) (hxx : x < 18446744073709551616) :
    Calls Tryz.prog 72 #[.slice A n c, .int .u64 (x : Int)] w fun e w' => ∃ g m c', e = .returned (.slice (some ⟨g, 0, none⟩) m c') ∧ w.heap.size ≤ g ∧ OB w' g m c' (xs ++ vF 9 x) ∧ Below w.heap.size w w' := by
  have hx9 := hideIt (lt64 hxx)
  go_enter Tryz.func72, Tryz.ntmps72
  go_wp2_with (go_at_call 78; refine (grown_calls _ _ _ 10 _ _ hx (by omega)).mono ?_; rintro e w1 ⟨g1, rfl, s1, o1, b1⟩)
  go_loopw [1, 5] (fun vv bb wr => ∃ (k v m g c' : Nat) (ys : List UInt8), k ≤ 9 ∧ m + k = n + 9 ∧ vv = .int .u64 (v : Int) ∧ v < 18446744073709551616 ∧ Hid (v < 2 * 128 ^ k) ∧ bb = .slice (some ⟨g, 0, none⟩) m c' ∧ w.heap.size ≤ g ∧ OB wr g m c' ys ∧ Hid (ys ++ vF k v = xs ++ vF 9 x) ∧ Below w.heap.size w wr)
    (fun vv _ _ => (intOf vv).toNat)
  case atStart => exact ⟨9, x, n, g1, _, xs, by omega, rfl, rfl, hxx, hx9, rfl, s1, o1, hideIt rfl, b1⟩
  case round =>
    obtain ⟨k, v, m, g, c', ys, hk, hmk, rfl, hv, HK, rfl, sg, og, HY, bw⟩ := hrel
    by_cases hbig : 128 ≤ v
    · match k, hk, HK, HY, hmk with
      | 0, _, HK, _, _ => exact absurd (vf_zero HK) (by omega)
      | k + 1, hk, HK, HY, hmk =>
        have h1 := byte_hi v
        obtain ⟨b, hbv⟩ : ∃ b, b = UInt8.ofNat (v % 128 + 128) := ⟨_, rfl⟩
        rw [← hbv] at h1
        have HS := vf_step HY hbig (hideIt hbv)
        have HD := vf_down HK
        obtain ⟨q, hq⟩ : ∃ q, v / 128 = q := ⟨_, rfl⟩
        have hq1 : (v : Int) / 128 = (q : Int) := by omega
        have hq2 : q < v := by omega
        rw [hq] at HS HD
        have hbi : (128 : Int) ≤ (v : Int) := by omega
        clear hbv hq
        go_wp2_with (at_builtin; have o2 := og.below ((Below.refl _ _).alloc (Nat.le_refl _) (.cells (u8s [b]).toArray 5)); refine wpB_app rfl _ _ rfl _ _ _ _ rfl o2 _ _ _ [b] rfl (RB.lit wr [b] 1 rfl (by simp [maxLen])).read (m + 1) (by omega) (by omega) ?_; intro g4 c4 w4 q4 p4 o4 k4; have lg := og.lt; have z4 := bw.size; have b4 := (bw.alloc z4 (.cells (u8s [b]).toArray 5)).grown k4 (by simp; omega) (by simp; omega))
        go_roundw
        case rel =>
          have q4' : g4 = g ∨ wr.heap.size + 1 ≤ g4 := by simpa using q4
          exact ⟨k, q, m + 1, g4, c4, _, by omega, by omega, rfl, by omega, HD, rfl, by omega, o4, HS, b4⟩
        case measure => simp [intOf]; omega
    · obtain ⟨b, rfl⟩ : ∃ b : UInt8, v = b.toNat := ⟨UInt8.ofNat v, (byte_ofNat (by omega)).symm⟩
      have hlo : (b.toNat : Int) % 256 = (b.toNat : Int) := by have := b.toNat_lt; omega
      have HE := vf_last HY (by omega) (hideIt UInt8.ofNat_toNat.symm)
      have hsm : (b.toNat : Int) < 128 := by omega
      go_wp2_with (at_builtin; have o2 := og.below ((Below.refl _ _).alloc (Nat.le_refl _) (.cells (u8s [b]).toArray 5)); refine wpB_app rfl _ _ rfl _ _ _ _ rfl o2 _ _ _ [b] rfl (RB.lit wr [b] 1 rfl (by simp [maxLen])).read (m + 1) (by omega) (by omega) ?_; intro g4 c4 w4 q4 p4 o4 k4; have lg := og.lt; have z4 := bw.size; have b4 := (bw.alloc z4 (.cells (u8s [b]).toArray 5)).grown k4 (by simp; omega) (by simp; omega))
      have q4' : g4 = g ∨ wr.heap.size + 1 ≤ g4 := by simpa using q4
      rw [HE.out] at o4
      go_ret
      exact ⟨g4, m + 1, c4, rfl, by omega, o4, b4⟩

set_option maxRecDepth 100000 in
set_option maxHeartbeats 1000000 in
theorem refPutV_calls (A : Option Addr) (n c : Nat) (xs : List UInt8) (x : Nat) (w : World) (hx : RB w A n c xs) (hb : n ≤ 140737488351200) (hxx : x < 18446744073709551616) :
    Calls Tryz.prog 175 #[.slice A n c, .int .u64 (x : Int)] w fun e w' => ∃ g m c', e = .returned (.slice (some ⟨g, 0, none⟩) m c') ∧ w.heap.size ≤ g ∧ OB w' g m c' (xs ++ vF 9 x) ∧ Below w.heap.size w w' := by
  have hx9 := hideIt (lt64 hxx)
  go_enter Tryz.func175, Tryz.ntmps175
  go_wp2_with (go_at_call 22; refine (Bytes_calls _ _ _ _ _ hx (by omega)).mono ?_; rintro e w1 ⟨g1, c1, rfl, s1, o1, b1⟩)
  go_loopw [1, 5] (fun vv bb wr => ∃ (k v m g c' : Nat) (ys : List UInt8), k ≤ 9 ∧ m + k = n + 9 ∧ vv = .int .u64 (v : Int) ∧ v < 18446744073709551616 ∧ Hid (v < 2 * 128 ^ k) ∧ bb = .slice (some ⟨g, 0, none⟩) m c' ∧ w.heap.size ≤ g ∧ OB wr g m c' ys ∧ Hid (ys ++ vF k v = xs ++ vF 9 x) ∧ Below w.heap.size w wr)
    (fun vv _ _ => (intOf vv).toNat)
  case atStart => exact ⟨9, x, n, g1, _, xs, by omega, rfl, rfl, hxx, hx9, rfl, s1, o1, hideIt rfl, b1⟩
  case round =>
    obtain ⟨k, v, m, g, c', ys, hk, hmk, rfl, hv, HK, rfl, sg, og, HY, bw⟩ := hrel
    by_cases hbig : 128 ≤ v
    · match k, hk, HK, HY, hmk with
      | 0, _, HK, _, _ => exact absurd (vf_zero HK) (by omega)
      | k + 1, hk, HK, HY, hmk =>
        have h1 := byte_hi v
        obtain ⟨b, hbv⟩ : ∃ b, b = UInt8.ofNat (v % 128 + 128) := ⟨_, rfl⟩
        rw [← hbv] at h1
        have HS := vf_step HY hbig (hideIt hbv)
        have HD := vf_down HK
        obtain ⟨q, hq⟩ : ∃ q, v / 128 = q := ⟨_, rfl⟩
        have hq1 : (v : Int) / 128 = (q : Int) := by omega
        have hq2 : q < v := by omega
        rw [hq] at HS HD
        have hbi : (128 : Int) ≤ (v : Int) := by omega
        have h2 : (v : Int) % 128 + 128 = (b.toNat : Int) := by rw [hbv, byte_ofNat (by omega)]; omega
        clear hbv hq
        go_wp2_with (at_builtin; have o2 := og.below ((Below.refl _ _).alloc (Nat.le_refl _) (.cells (u8s [b]).toArray 5)); refine wpB_app rfl _ _ rfl _ _ _ _ rfl o2 _ _ _ [b] rfl (RB.lit wr [b] 1 rfl (by simp [maxLen])).read (m + 1) (by omega) (by omega) ?_; intro g4 c4 w4 q4 p4 o4 k4; have lg := og.lt; have z4 := bw.size; have b4 := (bw.alloc z4 (.cells (u8s [b]).toArray 5)).grown k4 (by simp; omega) (by simp; omega))
        go_roundw
        case rel =>
          have q4' : g4 = g ∨ wr.heap.size + 1 ≤ g4 := by simpa using q4
          exact ⟨k, q, m + 1, g4, c4, _, by omega, by omega, rfl, by omega, HD, rfl, by omega, o4, HS, b4⟩
        case measure => simp [intOf]; omega
    · obtain ⟨b, rfl⟩ : ∃ b : UInt8, v = b.toNat := ⟨UInt8.ofNat v, (byte_ofNat (by omega)).symm⟩
      have hlo : (b.toNat : Int) % 256 = (b.toNat : Int) := by have := b.toNat_lt; omega
      have HE := vf_last HY (by omega) (hideIt UInt8.ofNat_toNat.symm)
      have hsm : (b.toNat : Int) < 128 := by omega
      go_wp2_with (at_builtin; have o2 := og.below ((Below.refl _ _).alloc (Nat.le_refl _) (.cells (u8s [b]).toArray 5)); refine wpB_app rfl _ _ rfl _ _ _ _ rfl o2 _ _ _ [b] rfl (RB.lit wr [b] 1 rfl (by simp [maxLen])).read (m + 1) (by omega) (by omega) ?_; intro g4 c4 w4 q4 p4 o4 k4; have lg := og.lt; have z4 := bw.size; have b4 := (bw.alloc z4 (.cells (u8s [b]).toArray 5)).grown k4 (by simp; omega) (by simp; omega))
      have q4' : g4 = g ∨ wr.heap.size + 1 ≤ g4 := by simpa using q4
      rw [HE.out] at o4
      go_ret
      exact ⟨g4, m + 1, c4, rfl, by omega, o4, b4⟩

set_option maxRecDepth 100000 in
set_option maxHeartbeats 1000000 in
theorem VLen_calls (x : Nat) (w : World) (hxx : x < 18446744073709551616) :
    Calls Tryz.prog 73 #[.int .u64 (x : Int)] w fun e w' => e = .returned (.int .i64 ((vF 9 x).length : Nat)) ∧ w = w' := by
  have hx9 := hideIt (lt64 hxx)
  have hl9 := (vF_length 9 x).2
  generalize hT : (vF 9 x).length = T at *
  have HT := hideIt hT
  clear hT
  go_enter Tryz.func73, Tryz.ntmps73
  go_wp2
  go_loopw [0, 3] (fun vv nn wr => ∃ (k v m : Nat), k ≤ 9 ∧ m + k = 10 ∧ vv = .int .u64 (v : Int) ∧ v < 18446744073709551616 ∧ Hid (v < 2 * 128 ^ k) ∧ nn = .int .i64 (m : Int) ∧ Hid (m + (vF k v).length = T + 1) ∧ w = wr)
    (fun vv _ _ => (intOf vv).toNat)
  case atStart => exact ⟨9, x, 1, by omega, rfl, rfl, hxx, hx9, rfl, by unfold Hid; rw [HT.out]; omega, rfl⟩
  case round =>
    obtain ⟨k, v, m, hk, hmk, rfl, hv, HK, rfl, HY, rfl⟩ := hrel
    by_cases hbig : 128 ≤ v
    · match k, hk, HK, HY, hmk with
      | 0, _, HK, _, _ => exact absurd (vf_zero HK) (by omega)
      | k + 1, hk, HK, HY, hmk =>
        have HS := vlen_step HY hbig
        have HD := vf_down HK
        obtain ⟨q, hq⟩ : ∃ q, v / 128 = q := ⟨_, rfl⟩
        have hq1 : (v : Int) / 128 = (q : Int) := by omega
        have hq2 : q < v := by omega
        rw [hq] at HS HD
        have hbi : (128 : Int) ≤ (v : Int) := by omega
        clear hq
        go_wp2
        go_roundw
        case rel => exact ⟨k, q, m + 1, by omega, by omega, rfl, by omega, HD, by go_num, HS, by trivial⟩
        case measure => simp [intOf]; omega
    · have he := vlen_last HY (by omega)
      subst he
      have hsm : (v : Int) < 128 := by omega
      go_wp2
      go_ret
      first | exact ⟨rfl, rfl⟩ | exact ⟨rfl, trivial⟩

set_option maxRecDepth 100000 in
set_option maxHeartbeats 1000000 in
theorem refVLen_calls (x : Nat) (w : World) (hxx : x < 18446744073709551616) :
    Calls Tryz.prog 173 #[.int .u64 (x : Int)] w fun e w' => e = .returned (.int .i64 ((vF 9 x).length : Nat)) ∧ w = w' := by
  have hx9 := hideIt (lt64 hxx)
  have hl9 := (vF_length 9 x).2
  generalize hT : (vF 9 x).length = T at *
  have HT := hideIt hT
  clear hT
  go_enter Tryz.func173, Tryz.ntmps173
  go_wp2
  go_loopw [0, 3] (fun vv nn wr => ∃ (k v m : Nat), k ≤ 9 ∧ m + k = 10 ∧ vv = .int .u64 (v : Int) ∧ v < 18446744073709551616 ∧ Hid (v < 2 * 128 ^ k) ∧ nn = .int .i64 (m : Int) ∧ Hid (m + (vF k v).length = T + 1) ∧ w = wr)
    (fun vv _ _ => (intOf vv).toNat)
  case atStart => exact ⟨9, x, 1, by omega, rfl, rfl, hxx, hx9, rfl, by unfold Hid; rw [HT.out]; omega, rfl⟩
  case round =>
    obtain ⟨k, v, m, hk, hmk, rfl, hv, HK, rfl, HY, rfl⟩ := hrel
    by_cases hbig : 128 ≤ v
    · match k, hk, HK, HY, hmk with
      | 0, _, HK, _, _ => exact absurd (vf_zero HK) (by omega)
      | k + 1, hk, HK, HY, hmk =>
        have HS := vlen_step HY hbig
        have HD := vf_down HK
        obtain ⟨q, hq⟩ : ∃ q, v / 128 = q := ⟨_, rfl⟩
        have hq1 : (v : Int) / 128 = (q : Int) := by omega
        have hq2 : q < v := by omega
        rw [hq] at HS HD
        have hbi : (128 : Int) ≤ (v : Int) := by omega
        clear hq
        go_wp2
        go_roundw
        case rel => exact ⟨k, q, m + 1, by omega, by omega, rfl, by omega, HD, by go_num, HS, by trivial⟩
        case measure => simp [intOf]; omega
    · have he := vlen_last HY (by omega)
      subst he
      have hsm : (v : Int) < 128 := by omega
      go_wp2
      go_ret
      first | exact ⟨rfl, rfl⟩ | exact ⟨rfl, trivial⟩
end Go.Proofs.YtmeakhiiebeneaaGreatDoor
namespace Go.Proofs.YtmeakhiiebeneaaGreatDoor
open Go.RowKit

set_option maxRecDepth 100000 in
set_option maxHeartbeats 400000 in
theorem width16_calls (w : World) : Calls Tryz.prog 168 #[] w fun e w' => e = .returned (.int .i64 2) ∧ w = w' := by
  have h0 := ones_top2
  go_enter Tryz.func168, Tryz.ntmps168
  go_wp2
  go_loopw [1, 2] (fun nn mm wr => ∃ (k j : Nat), k + j = 2 ∧ nn = .int .i64 (k : Int) ∧ mm = .int .u64 (ones j : Int) ∧ w = wr)
    (fun nn _ _ => 2 - (intOf nn).toNat)
  case atStart => exact ⟨0, 2, rfl, rfl, by rw [h0]; rfl, rfl⟩
  case round =>
    obtain ⟨k, j, hkj, rfl, rfl, rfl⟩ := hrel
    match j, hkj with
    | 0, hkj =>
      obtain rfl : k = 2 := by omega
      have h1 := ones_zero
      go_wp2
      go_ret
      first | exact ⟨rfl, rfl⟩ | exact ⟨rfl, trivial⟩
    | j + 1, hkj =>
      have h1 := ones_pos j
      have h2 := ones_div j
      have h3 := ones_le j (by omega)
      go_wp2
      go_roundw
      case rel => exact ⟨k + 1, j, by omega, by go_num, rfl, by trivial⟩
      case measure => simp [intOf]; omega

set_option maxRecDepth 100000 in
set_option maxHeartbeats 1000000 in
theorem Put16_calls (A : Option Addr) (n c : Nat) (xs : List UInt8) (x : Nat) (w : World) (hx : RB w A n c xs) (hb : n ≤ 140737488355300) (hxx : x < 256 ^ 2) :
    Calls Tryz.prog 71 #[.slice A n c, .int .u16 (x : Int)] w fun e w' => ∃ g c', e = .returned (.slice (some ⟨g, 0, none⟩) (n + 2) c') ∧ w.heap.size ≤ g ∧ OB w' g (n + 2) c' (xs ++ leB x 2) ∧ Below w.heap.size w w' := by
  have hx64 : x < 18446744073709551616 := Nat.lt_of_lt_of_le hxx (by decide)
  go_enter Tryz.func71, Tryz.ntmps71
  go_wp2_with (first
    | (go_at_call 78; refine (grown_calls _ _ _ 8 _ _ hx (by omega)).mono ?_; rintro e w1 ⟨g1, rfl, s1, o1, b1⟩)
    | (go_at_call 168; refine (width16_calls _).mono ?_; rintro e w2 ⟨rfl, rfl⟩))
  go_loopw [5, 6, 12] (fun bb vv ii wr => ∃ (k g c' v : Nat) (ys : List UInt8), k ≤ 2 ∧ bb = .slice (some ⟨g, 0, none⟩) (n + k) c' ∧ vv = .int .u64 (v : Int) ∧ ii = .int .i64 (k : Int) ∧ w.heap.size ≤ g ∧ OB wr g (n + k) c' ys ∧ Hid (ys = xs ++ leB x k) ∧ Hid (v = x / 256 ^ k) ∧ v < 18446744073709551616 ∧ Below w.heap.size w wr)
    (fun _ _ ii _ => 2 - (intOf ii).toNat)
  case atStart => exact ⟨0, g1, _, x, xs, by omega, rfl, rfl, rfl, s1, o1, by unfold Hid; simp [leB], by unfold Hid; simp, by omega, b1⟩
  case round =>
    obtain ⟨k, g, c', v, ys, hk, rfl, rfl, rfl, sg, og, HY, HV, hv, bw⟩ := hrel
    by_cases hlt : k < 2
    · obtain ⟨b, q, hb1, hq1, HB⟩ := low_byte v
      have H1 := put_step HY HV HB
      have H2 := put_next HV HB
      have hq2 : q < 18446744073709551616 := by have := HB.out.2; omega
      go_wp2_with (at_builtin; have o2 := og.below ((Below.refl _ _).alloc (Nat.le_refl _) (.cells (u8s [b]).toArray 5)); refine wpB_app rfl _ _ rfl _ _ _ _ rfl o2 _ _ _ [b] rfl (RB.lit wr [b] 1 rfl (by simp [maxLen])).read (n + (k + 1)) (by omega) (by omega) ?_; intro g4 c4 w4 q4 p4 o4 k4; have lg := og.lt; have z4 := bw.size; have b4 := (bw.alloc z4 (.cells (u8s [b]).toArray 5)).grown k4 (by simp; omega) (by simp; omega))
      go_roundw
      case rel =>
        have q4' : g4 = g ∨ wr.heap.size + 1 ≤ g4 := by simpa using q4
        exact ⟨k + 1, g4, c4, q, _, by omega, rfl, rfl, by go_num, by omega, o4, H1, H2, by omega, b4⟩
      case measure => simp [intOf]; omega
    · obtain rfl : k = 2 := by omega
      go_wp2
      go_ret
      exact ⟨g, c', rfl, sg, by rw [← HY.out]; exact og, bw⟩
end Go.Proofs.YtmeakhiiebeneaaGreatDoor
namespace Go.Proofs.YtmeakhiiebeneaaGreatDoor
open Go.RowKit

set_option maxRecDepth 100000 in
set_option maxHeartbeats 400000 in
theorem width32_calls (w : World) : Calls Tryz.prog 170 #[] w fun e w' => e = .returned (.int .i64 4) ∧ w = w' := by
  have h0 := ones_top4
  go_enter Tryz.func170, Tryz.ntmps170
  go_wp2
  go_loopw [1, 2] (fun nn mm wr => ∃ (k j : Nat), k + j = 4 ∧ nn = .int .i64 (k : Int) ∧ mm = .int .u64 (ones j : Int) ∧ w = wr)
    (fun nn _ _ => 4 - (intOf nn).toNat)
  case atStart => exact ⟨0, 4, rfl, rfl, by rw [h0]; rfl, rfl⟩
  case round =>
    obtain ⟨k, j, hkj, rfl, rfl, rfl⟩ := hrel
    match j, hkj with
    | 0, hkj =>
      obtain rfl : k = 4 := by omega
      have h1 := ones_zero
      go_wp2
      go_ret
      first | exact ⟨rfl, rfl⟩ | exact ⟨rfl, trivial⟩
    | j + 1, hkj =>
      have h1 := ones_pos j
      have h2 := ones_div j
      have h3 := ones_le j (by omega)
      go_wp2
      go_roundw
      case rel => exact ⟨k + 1, j, by omega, by go_num, rfl, by trivial⟩
      case measure => simp [intOf]; omega

set_option maxRecDepth 100000 in
set_option maxHeartbeats 1000000 in
theorem Put32_calls (A : Option Addr) (n c : Nat) (xs : List UInt8) (x : Nat) (w : World) (hx : RB w A n c xs) (hb : n ≤ 140737488355300) (hxx : x < 256 ^ 4) :
    Calls Tryz.prog 80 #[.slice A n c, .int .u32 (x : Int)] w fun e w' => ∃ g c', e = .returned (.slice (some ⟨g, 0, none⟩) (n + 4) c') ∧ w.heap.size ≤ g ∧ OB w' g (n + 4) c' (xs ++ leB x 4) ∧ Below w.heap.size w w' := by
  have hx64 : x < 18446744073709551616 := Nat.lt_of_lt_of_le hxx (by decide)
  go_enter Tryz.func80, Tryz.ntmps80
  go_wp2_with (first
    | (go_at_call 78; refine (grown_calls _ _ _ 8 _ _ hx (by omega)).mono ?_; rintro e w1 ⟨g1, rfl, s1, o1, b1⟩)
    | (go_at_call 170; refine (width32_calls _).mono ?_; rintro e w2 ⟨rfl, rfl⟩))
  go_loopw [5, 6, 12] (fun bb vv ii wr => ∃ (k g c' v : Nat) (ys : List UInt8), k ≤ 4 ∧ bb = .slice (some ⟨g, 0, none⟩) (n + k) c' ∧ vv = .int .u64 (v : Int) ∧ ii = .int .i64 (k : Int) ∧ w.heap.size ≤ g ∧ OB wr g (n + k) c' ys ∧ Hid (ys = xs ++ leB x k) ∧ Hid (v = x / 256 ^ k) ∧ v < 18446744073709551616 ∧ Below w.heap.size w wr)
    (fun _ _ ii _ => 4 - (intOf ii).toNat)
  case atStart => exact ⟨0, g1, _, x, xs, by omega, rfl, rfl, rfl, s1, o1, by unfold Hid; simp [leB], by unfold Hid; simp, by omega, b1⟩
  case round =>
    obtain ⟨k, g, c', v, ys, hk, rfl, rfl, rfl, sg, og, HY, HV, hv, bw⟩ := hrel
    by_cases hlt : k < 4
    · obtain ⟨b, q, hb1, hq1, HB⟩ := low_byte v
      have H1 := put_step HY HV HB
      have H2 := put_next HV HB
      have hq2 : q < 18446744073709551616 := by have := HB.out.2; omega
      go_wp2_with (at_builtin; have o2 := og.below ((Below.refl _ _).alloc (Nat.le_refl _) (.cells (u8s [b]).toArray 5)); refine wpB_app rfl _ _ rfl _ _ _ _ rfl o2 _ _ _ [b] rfl (RB.lit wr [b] 1 rfl (by simp [maxLen])).read (n + (k + 1)) (by omega) (by omega) ?_; intro g4 c4 w4 q4 p4 o4 k4; have lg := og.lt; have z4 := bw.size; have b4 := (bw.alloc z4 (.cells (u8s [b]).toArray 5)).grown k4 (by simp; omega) (by simp; omega))
      go_roundw
      case rel =>
        have q4' : g4 = g ∨ wr.heap.size + 1 ≤ g4 := by simpa using q4
        exact ⟨k + 1, g4, c4, q, _, by omega, rfl, rfl, by go_num, by omega, o4, H1, H2, by omega, b4⟩
      case measure => simp [intOf]; omega
    · obtain rfl : k = 4 := by omega
      go_wp2
      go_ret
      exact ⟨g, c', rfl, sg, by rw [← HY.out]; exact og, bw⟩
end Go.Proofs.YtmeakhiiebeneaaGreatDoor
namespace Go.Proofs.YtmeakhiiebeneaaGreatDoor
open Go.RowKit

theorem stepB_copy {w : World} {ops : Array Oper} {o : Oper} {a : Act} {K : Act → World → Prop} {Q : Exit → Act → World → Prop} {E : Prop} (hgd : o.guard = none) (d s : Operand) (ho : o.op = .call { callee := .builtin .copy, args := #[d, s], argTypes := #[40, 40] })
    (D : Option Addr) (dl dc : Nat) (hd : a.eval d = .slice D dl dc) (A : Option Addr) (m k : Nat) (hs : a.eval s = .slice A m k)
    (g n c off : Nat) (xs ys : List UInt8) (hown : OB w g n c xs) (hr : RB w A m k ys) (j : Nat) (hj : j = min m dl) (hD : 0 < j → D = some ⟨g, off, none⟩) (hfit : off + j ≤ n)
    (h : ∀ w', OB w' g n c (xs.take off ++ (ys.take j ++ xs.drop (off + j))) → w.grownBy w' (some g) → K (a.put o.dst (.int .i64 j)) w') :
    if Region.wanted o (yielded ops a.tmps) = true then Oper.wp Tryz.prog o a w K Q else E := by
  have hw : Region.wanted o (yielded ops a.tmps) = true := by simp [Region.wanted, hgd]
  rw [if_pos hw]
  have hyl := hr.len
  have hxl := hown.len
  by_cases h0 : j = 0
  · have hrun := run_copy_none (P := Tryz.prog) w 40 40 o.type 5 D A dl dc m k Tryz.underlying40 info1_u8 (by show min m dl = 0; omega)
    unfold Oper.wp
    simp [execOp, ho, resolve, invoke, builtin, hd, hs, hrun, Result.andThen]
    subst h0
    exact h w (by simpa using hown) (World.grownBy.refl _ _)
  · have hm : 0 < m := by omega
    obtain ⟨ad, rfl, hc⟩ := RC.drop0 hr hm
    have hDD := hD (by omega)
    subst hDD
    obtain ⟨hl, cur, hg, r1, r2, r3, r4⟩ := OC.block hown
    rw [Nat.mul_one] at r3 r4 hl
    have hrun := run_copy_row (P := Tryz.prog) w 40 40 o.type 5 g off dl dc ad m k cur 5 (u8s (ys.take j)) Tryz.underlying40 info1_u8 hg (by rw [u8s_length, List.length_take, hyl]; show min j m = min m dl; first | omega | (subst hj; omega))
      (fun i u hu => hc i u (by
        rw [← u8s_take, List.getElem?_take] at hu
        split at hu
        · exact hu
        · cases hu)) (by rw [u8s_length, List.length_take]; omega) (u8s_one _)
    unfold Oper.wp
    simp [execOp, ho, resolve, invoke, builtin, hd, hs, hrun, Result.andThen]
    have hjl : (u8s (ys.take j)).length = j := by rw [u8s_length, List.length_take]; omega
    have hcl : cur.toList.length = c := by rw [Array.length_toList]; exact r3
    rw [hjl]
    refine h _ (OC.mk (by simp [u8s_length]; omega) _ (setRow_heap w g cur _ 5 _ hg) r1 r2 ?_ ?_) ⟨rfl, rfl, rfl, by simp, fun q _ hq => setRow_other w g q _ (fun e => hq (by simp [e]))⟩
    · simp only [List.size_toArray, List.length_append, List.length_take, List.length_drop, hjl, hcl]
      omega
    · have hsp := splice_take (u8s xs) (cur.toList.drop n) (u8s (ys.take j)) off n (by rw [u8s_length]; exact hxl) (by rw [hjl]; exact hfit)
      have e3 : u8s xs ++ cur.toList.drop n = cur.toList := by rw [← r4, List.take_append_drop]
      rw [hjl, e3, u8s_take, u8s_drop] at hsp
      rw [Nat.mul_one, u8s_append, u8s_append]
      exact hsp
end Go.Proofs.YtmeakhiiebeneaaGreatDoor
