/- The walk of the law WireApart. -/
import Derived.Test.YtnhmilpnekfhmaaVg
namespace Go.Proofs.Ytnhmilpnekfhmaa
open Go.RowKit

theorem apart_law (x y m : Nat) (hx : x < 18446744073709551616) (hy : y < 18446744073709551616) (hm : m = min (vF 9 x).length (vF 9 y).length) : decide ((vF 9 x).take m = (vF 9 y).take m) = decide (x = y) := by
  rw [Bool.eq_iff_iff, decide_eq_true_eq, decide_eq_true_eq]
  constructor
  · intro h
    rcases Nat.le_total (vF 9 x).length (vF 9 y).length with hle | hle
    · rw [Nat.min_eq_left hle] at hm
      subst hm
      rw [List.take_length] at h
      have e : vF 9 y = vF 9 x ++ (vF 9 y).drop (vF 9 x).length := by rw [h, List.length_take, Nat.min_eq_left hle, List.take_append_drop]
      exact (vF_apart y x hy hx _ e).symm
    · rw [Nat.min_eq_right hle] at hm
      subst hm
      rw [List.take_length] at h
      have e : vF 9 x = vF 9 y ++ (vF 9 x).drop (vF 9 y).length := by rw [← h, List.length_take, Nat.min_eq_left hle, List.take_append_drop]
      exact vF_apart x y hx hy _ e
  · rintro rfl; rfl
theorem apart_read (x : Nat) (hx : x < 18446744073709551616) (tail : List UInt8) : vS (vF 9 x ++ tail) 0 0 = (x, (vF 9 x).length, 0) := vS_zero _ (vOut_form x hx tail)
theorem apart_rest (xs tail : List UInt8) (m n : Nat) (hm : xs.length = m) (hn : tail.length = n) : bytesS (xs ++ tail) m 0 (n : Int) = (tail, m + n, 0) := by
  unfold bytesS
  rw [if_pos ⟨rfl, by omega, by rw [List.length_append]; omega⟩]
  have e : ((xs ++ tail).drop m).take (n : Int).toNat = tail := by
    rw [← hm, List.drop_left, Int.toNat_natCast, ← hn, List.take_length]
  rw [e]
  simp

set_option maxRecDepth 100000 in
set_option maxHeartbeats 4000000 in
theorem WireApart_walk (x y : Nat) (A : Option Addr) (n c : Nat) (xs : List UInt8) (w : World) (hxx : x < 18446744073709551616) (hyy : y < 18446744073709551616) (hx : RB w A n c xs) (_hb : n ≤ 140737488351232) :
    Calls Try.prog 8 #[.int .u64 (x : Int), .int .u64 (y : Int), .slice A n c] w fun e w' => e = .returned (.bool true) ∧ Below w.heap.size w w' := by
  by_cases hbig : 65536 < n
  · have hbig' : (65536 : Int) < n := by omega
    clear hxx hyy
    go_enter Try.func8, Try.ntmps8
    go_wp2_with (go_at_call 10; refine (first_calls _).mono ?_; rintro e w1 ⟨rfl, b1⟩)
    go_ret
    exact ⟨rfl, b1⟩
  have hsmall : (n : Int) ≤ 65536 := by omega
  have hN : n ≤ 65536 := by omega
  have LX := hideIt hxx
  have LY := hideIt hyy
  have HL := hideIt hx.len
  obtain ⟨mx, hmx⟩ : ∃ m, (vF 9 x).length = m := ⟨_, rfl⟩
  obtain ⟨my, hmy⟩ : ∃ m, (vF 9 y).length = m := ⟨_, rfl⟩
  have lx := (vF_length 9 x)
  have ly := (vF_length 9 y)
  rw [hmx] at lx
  rw [hmy] at ly
  obtain ⟨m, hm⟩ : ∃ m, m = min mx my := ⟨_, rfl⟩
  have hap := apart_law x y m hxx hyy (by rw [hmx, hmy]; exact hm)
  have hrd := apart_read x hxx xs
  rw [hmx] at hrd
  have hrs := apart_rest (vF 9 x) xs mx n hmx HL.out
  have HMX := hideIt hmx
  have HMY := hideIt hmy
  have HAP := hideIt hap
  have HRD := hideIt hrd
  have HRS := hideIt hrs
  clear _hb hbig hxx hyy hmx hmy hap hrd hrs
  go_enter Try.func8, Try.ntmps8
  go_upto_region 4 with (go_at_call 10; refine (first_calls _).mono ?_; rintro e w1 ⟨rfl, b1⟩)
  go_upto_region 5 with (go_at_call 17; refine (PutV_calls none 0 0 [] x _ (RB.nil _) (by omega) LX.out).mono ?_; rintro en w2 ⟨g2, m2, e2, rfl, s2, o2, x2⟩)
  rw [List.nil_append] at o2
  obtain rfl : mx = m2 := by have := o2.len; rw [HMX.out] at this; exact this
  have b2 := b1.trans (x2.mono b1.size)
  clear b1 x2 s2
  go_upto_region 6 with (go_at_call 17; refine (PutV_calls none 0 0 [] y _ (RB.nil _) (by omega) LY.out).mono ?_; rintro en w3 ⟨g3, m3, e3, rfl, s3, o3, x3⟩)
  rw [List.nil_append] at o3
  obtain rfl : my = m3 := by have := o3.len; rw [HMY.out] at this; exact this
  have b3 := b2.trans (x3.mono b2.size)
  have o2' := o2.below x3
  clear b2 x3 s3 o2
  have hle := OC.le o2'
  have hle3 := OC.le o3
  have hm' : (my < mx ∧ my = m) ∨ (mx ≤ my ∧ mx = m) := by omega
  have hm1 : m ≤ mx := by omega
  have hm2 : m ≤ my := by omega
  have k1 : (m : Int) ≤ (e2 : Int) := by omega
  have k2 : (m : Int) ≤ (e3 : Int) := by omega
  clear hm
  rcases hm' with ⟨hlt, rfl⟩ | ⟨hlt, rfl⟩
  all_goals
    go_upto_region 9 with fail
    have b4 : Below w.heap.size w w3.drew := b3.trans ((drew1 w3).mono b3.size)
    have o4 := o2'.below (drew1 w3)
    have p4 := o3.below (drew1 w3)
    have t4 := o4.read.take _ hm1
    have v4 := p4.read.take _ hm2
    have S := SameBytes_calls _ _ _ _ _ _ _ _ w3.drew t4 v4 _ HAP.out.symm
    clear o2' o3 b3 t4 v4 p4 hm1 hm2
    go_region_held3 (fun _ => True) (trivial)
      (first
        | (go_at_call 13; (with_reducible refine S.mono ?_); rintro en wx ⟨rfl, rfl⟩))
    have hxy : ((x : Int) == (y : Int)) = decide (x = y) := by rw [Bool.eq_iff_iff, beq_iff_eq, decide_eq_true_eq]; omega
    clear S
    generalize w3.drew = w4 at *
    have f5 := o4.read
    go_upto_region 12 with fail
    go_upto_region 13 with (go_at_call 26; refine (Bytes_calls _ _ _ _ _ f5 (by omega)).mono ?_; rintro en w6 ⟨g6, e6, rfl, s6, o6, x6⟩)
    have b6 := b4.trans (x6.mono b4.size)
    have h6 := hx.below b6
    have gw6 := Nat.le_trans b4.size s6
    clear b4 x6 s6 o4 f5
    go_upto_region 14 with (at_builtin; refine wpB_app rfl _ _ rfl _ _ _ _ rfl o6 _ _ _ xs rfl h6 (mx + n) rfl (by omega) ?_; intro g7 c7 w7 q7 p7 o7 k7; have b7 := b6.grown k7 b6.size (by simpa using gw6))
    clear p7 k7 b6 h6 o6
    go_upto_region 17 with (go_at_call 14; refine (NewReader_calls _ _ _ _ _ o7.read (by omega)).mono ?_; rintro en w8 ⟨g8, rfl, s8, d8, x8⟩)
    have b8 := b7.trans (x8.mono b7.size)
    have gw8 := Nat.le_trans b7.size s8
    clear b7 x8 s8 o7
    have G := V_any g8 _ 0 0 w8 d8
    rw [HRD.out] at G
    go_upto_region 18 with (go_at_call 25; refine G.mono ?_; rintro en w9 ⟨rfl, d9, gr9⟩)
    have b9 := b8.grown gr9 b8.size (by simpa using gw8)
    clear G b8 d8 gr9
    have G := Bytes_any g8 _ mx 0 (n : Int) w9 d9 (by omega)
    rw [HRS.out] at G
    go_upto_region 19 with (go_at_call 27; refine G.mono ?_; rintro en w10 ⟨gb, m10, rfl, s10, o10, d10, gr10⟩)
    have b10 := b9.grown gr10 b9.size (by simpa using gw8)
    have h10 := hx.below b10
    clear G b9 d9 gr10 s10
    have G := Err_calls g8 _ (mx + n) 0 w10 d10
    go_wp2_with (first
      | (go_at_call 23; refine (num_calls _ _).mono ?_; rintro en wx ⟨rfl, rfl⟩)
      | (go_at_call 22; refine G.mono ?_; rintro en wx ⟨rfl, j3, rfl⟩)
      | (go_at_call 13; refine (SameBytes_calls _ _ _ _ _ _ _ _ _ o10.read h10 true (by simp)).mono ?_; rintro en wx ⟨rfl, rfl⟩))
    go_ret
    exact ⟨rfl, below_drewN b10 j3⟩
end Go.Proofs.Ytnhmilpnekfhmaa
