/- The walk of the law CrcTwo. -/
import Derived.Test.YtjfecechagoepaaDoorCrcV
namespace Go.Proofs.YtjfecechagoepaaDoor
open Go.RowKit

/-! ### the plain law -/
theorem togs_none (p t n k : Nat) (l : List UInt8) (h : ∀ j, k ≤ j → j < k + n → p.testBit j = false) : Crc.togs p t n k l = l := by
  induction n generalizing k l with
  | zero => rfl
  | succ n ih =>
    rw [Crc.togs, h k (by omega) (by omega), if_neg (by simp)]
    exact ih (k + 1) l (fun j h1 h2 => h j (by omega) (by omega))
theorem one_bit (j : Nat) (h : 1 ≤ j) : (1 : Nat).testBit j = false := by
  rw [Nat.testBit_eq_decide_div_mod_eq, Nat.div_eq_of_lt (Nat.one_lt_two_pow (by omega))]
  rfl
theorem togs_one (t : Nat) (l : List UInt8) (h : t < 8 * l.length) : Crc.togs 1 t 32 0 l = Crc.tog l t := by
  rw [Crc.togs, if_pos ⟨by decide, by simpa using h⟩, togs_none _ _ _ _ _ (fun j h1 _ => one_bit j (by omega))]
  rfl
theorem turned_one (A : Option Addr) (n c : Nat) (xs : List UInt8) (t : Nat) (w : World) (hx : RB w A n c xs) (hb : n ≤ 65536) (ht : t < 8 * n) :
    Calls Tryd.prog 28 #[.slice A n c, .int .i64 (t : Int), .int .u32 1] w fun e w' => ∃ g c' s, e = .returned (.tuple #[.slice (some ⟨g, 0, none⟩) n c', .bool s]) ∧ w.heap.size ≤ g ∧ OB w' g n c' (Crc.tog xs t) ∧ Below w.heap.size w w' := by
  refine (turned_calls A n c xs t 1#32 w hx hb (by omega)).mono ?_
  rintro e w' ⟨g, c', rfl, s, o, b⟩
  rw [show (1#32).toNat = 1 from rfl, togs_one _ _ (by rw [hx.len]; exact ht)] at o
  exact ⟨g, c', _, rfl, s, o, b⟩
theorem two_page (ps : List UInt8) (h : ps.length = 4092) (u v : Nat) (hu : u < 32768) (hv : v < 32768) {Pg Q R : List UInt8} (hP : ps ++ Crc.tail4 (Crc.sum ps) = Pg) (hQ : Crc.tog Pg u = Q) (hR : Crc.tog Q v = R) :
    (openC R == 22) = !decide (u = v) := by
  subst hP hQ hR
  have hl := page_length ps h
  rw [openC_reg _ (by rw [Crc.tog_length, Crc.tog_length]; exact hl)]
  have hb := Crc.reg_two (~~~ 0#32) (ps ++ Crc.tail4 (Crc.sum ps)) u v (by rw [hl]; exact hu) (by rw [hl]; exact hv) (by rw [hl]; decide)
  rw [page_magic] at hb
  rw [decide_eq_decide.2 hb]
theorem two_sum (xs : List UInt8) (n : Nat) (hn : xs.length = n) (hb : n ≤ 65536) (u v : Nat) (hu : u < 8 * n) (hv : v < 8 * n) {Q R : List UInt8} (hQ : Crc.tog xs u = Q) (hR : Crc.tog Q v = R) :
    (n32 (Crc.sum xs) == n32 (Crc.sum R)) = decide (u = v) := by
  subst hQ hR hn
  rw [sum_reg]
  exact decide_eq_decide.2 (Crc.reg_two (~~~ 0#32) xs u v hu hv (by omega))
theorem ne_nat (u v : Nat) : ((u : Int) != (v : Int)) = !decide (u = v) := by
  by_cases h : u = v
  · subst h; simp
  · rw [decide_eq_false h, bne_iff_ne.2 (by omega : (u : Int) ≠ v)]; rfl

set_option maxRecDepth 100000 in
set_option maxHeartbeats 4000000 in
theorem CrcTwo_walk (A : Option Addr) (n c : Nat) (xs : List UInt8) (i j : Int) (w : World) (hx : RB w A n c xs) (_hb : n ≤ 140737488351232) (_hi : -9223372036854775808 ≤ i ∧ i ≤ 9223372036854775807) (_hj : -9223372036854775808 ≤ j ∧ j ≤ 9223372036854775807) (hg : Tab w) :
    Calls Tryd.prog 11 #[.slice A n c, .int .i64 i, .int .i64 j] w fun e w' => e = .returned (.bool true) ∧ Below w.heap.size w w' := by
  by_cases hbig : 65536 < n
  · have hbig' : (65536 : Int) < n := by omega
    go_enter Tryd.func11, Tryd.ntmps11
    go_wp2_with (go_at_call 13; refine (first_calls _ hg).mono ?_; rintro e w1 ⟨rfl, b1⟩)
    go_ret
    exact ⟨rfl, b1⟩
  have hsmall : (n : Int) ≤ 65536 := by omega
  obtain ⟨r1, q1, hr1, hr1a, hr1b, hq1, hq1l⟩ := place32768 i
  obtain ⟨r2, q2, hr2, hr2a, hr2b, hq2, hq2l⟩ := place32768 j
  obtain ⟨Pg, hPg⟩ : ∃ l, pad xs 4092 ++ Crc.tail4 (Crc.sum (pad xs 4092)) = l := ⟨_, rfl⟩
  obtain ⟨Q, hQ⟩ : ∃ l, Crc.tog Pg q1 = l := ⟨_, rfl⟩
  obtain ⟨R, hR⟩ : ∃ l, Crc.tog Q q2 = l := ⟨_, rfl⟩
  have hC := two_page (pad xs 4092) (pad_length _ _) q1 q2 hq1l hq2l hPg hQ hR
  have hC' := ne_nat q1 q2
  obtain ⟨s1, hs1⟩ : ∃ s, (!decide (q1 = q2)) = s := ⟨_, rfl⟩
  rw [hs1] at hC hC'
  clear hs1
  have HP := hideIt hPg
  have HQ := hideIt hQ
  have HR := hideIt hR
  have HL := hideIt hx.len
  clear hPg hQ hR
  rcases Nat.eq_zero_or_pos n with h0 | h0
  · have hn0 : ((8 : Int) * (n : Int) == 0) = true := by rw [beq_iff_eq]; omega
    clear h0
    go_enter Tryd.func11, Tryd.ntmps11
    go_wp2_with (first
      | (go_at_call 24; refine (num_calls _ _).mono ?_; rintro e w9 ⟨rfl, rfl⟩)
      | (go_at_call 27; refine (Open_any _ _ _ _ _ o5.read (hg.below b5)).mono ?_; rintro e w6 ⟨A6, n6, d6, rfl, r6, b6'⟩; have b6 := b5.trans (b6'.mono b5.size))
      | (go_at_call 28; refine (turned_one _ _ _ _ q2 _ o4.read (by omega) (by omega)).mono ?_; rintro e w5 ⟨g5, d5, t5, rfl, s5, o5, b5'⟩; have b5 := b4.trans (b5'.mono b4.size); rw [HR.out] at o5)
      | (go_at_call 28; refine (turned_one _ _ _ _ q1 _ o3.read (by omega) (by omega)).mono ?_; rintro e w4 ⟨g4, d4, t4, rfl, s4, o4, b4'⟩; have b4 := b3.trans (b4'.mono b3.size); rw [HQ.out] at o4)
      | (go_at_call 21; refine (Seal_ok _ _ _ _ o2.read (hg.below b2)).mono ?_; rintro e w3 ⟨g3, d3, rfl, s3, o3, b3'⟩; have b3 := b2.trans (b3'.mono b2.size); rw [HP.out] at o3)
      | (go_at_call 26; refine (padded_calls _ _ _ 4092 _ _ (hx.below b1) (by omega)).mono ?_; rintro e w2 ⟨g2, rfl, s2, o2, b2'⟩; have b2 := b1.trans (b2'.mono b1.size))
      | (go_at_call 13; refine (first_calls _ hg).mono ?_; rintro e w1 ⟨rfl, b1⟩))
    go_ret
    exact ⟨rfl, b6⟩
  have hn0 : ((8 : Int) * (n : Int) == 0) = false := by rw [beq_eq_false_iff_ne]; omega
  obtain ⟨r3, q3, hr3, hr3a, hr3b, hq3, hq3l⟩ := place8 i n h0
  obtain ⟨r4, q4, hr4, hr4a, hr4b, hq4, hq4l⟩ := place8 j n h0
  obtain ⟨Y, hY⟩ : ∃ l, Crc.tog xs q3 = l := ⟨_, rfl⟩
  obtain ⟨Z, hZ⟩ : ∃ l, Crc.tog Y q4 = l := ⟨_, rfl⟩
  have hD := two_sum xs n HL.out (by omega) q3 q4 hq3l hq4l hY hZ
  have hE := ne_nat q3 q4
  obtain ⟨t2, ht2⟩ : ∃ s, (!decide (q3 = q4)) = s := ⟨_, rfl⟩
  have hD' : (n32 (Crc.sum xs) != n32 (Crc.sum Z)) = t2 := by unfold bne; rw [hD]; exact ht2
  rw [ht2] at hE
  clear ht2 hD
  have HY := hideIt hY
  have HZ := hideIt hZ
  clear hY hZ
  go_enter Tryd.func11, Tryd.ntmps11
  go_wp2_with (first
    | (go_at_call 24; refine (num_calls _ _).mono ?_; rintro e w9 ⟨rfl, rfl⟩)
    | (go_at_call 15; ((with_reducible refine (crcSum_calls _ _ _ _ _ o8.read (by omega) (hg.below b8)).mono ?_); rintro e w9 ⟨rfl, rfl⟩))
    | (go_at_call 15; ((with_reducible refine (crcSum_calls _ _ _ _ _ (hx.below b8) (by omega) (hg.below b8)).mono ?_); rintro e w9 ⟨rfl, rfl⟩))
    | (go_at_call 28; refine (turned_one _ _ _ _ q4 _ o7.read (by omega) (by omega)).mono ?_; rintro e w8 ⟨g8, d8, t8, rfl, s8, o8, b8'⟩; have b8 := b7.trans (b8'.mono b7.size); rw [HZ.out] at o8)
    | (go_at_call 28; refine (turned_one _ _ _ _ q3 _ (hx.below b6) (by omega) (by omega)).mono ?_; rintro e w7 ⟨g7, d7, t7, rfl, s7, o7, b7'⟩; have b7 := b6.trans (b7'.mono b6.size); rw [HY.out] at o7)
    | (go_at_call 27; refine (Open_any _ _ _ _ _ o5.read (hg.below b5)).mono ?_; rintro e w6 ⟨A6, n6, d6, rfl, r6, b6'⟩; have b6 := b5.trans (b6'.mono b5.size))
    | (go_at_call 28; refine (turned_one _ _ _ _ q2 _ o4.read (by omega) (by omega)).mono ?_; rintro e w5 ⟨g5, d5, t5, rfl, s5, o5, b5'⟩; have b5 := b4.trans (b5'.mono b4.size); rw [HR.out] at o5)
    | (go_at_call 28; refine (turned_one _ _ _ _ q1 _ o3.read (by omega) (by omega)).mono ?_; rintro e w4 ⟨g4, d4, t4, rfl, s4, o4, b4'⟩; have b4 := b3.trans (b4'.mono b3.size); rw [HQ.out] at o4)
    | (go_at_call 21; refine (Seal_ok _ _ _ _ o2.read (hg.below b2)).mono ?_; rintro e w3 ⟨g3, d3, rfl, s3, o3, b3'⟩; have b3 := b2.trans (b3'.mono b2.size); rw [HP.out] at o3)
    | (go_at_call 26; refine (padded_calls _ _ _ 4092 _ _ (hx.below b1) (by omega)).mono ?_; rintro e w2 ⟨g2, rfl, s2, o2, b2'⟩; have b2 := b1.trans (b2'.mono b1.size))
    | (go_at_call 13; refine (first_calls _ hg).mono ?_; rintro e w1 ⟨rfl, b1⟩))
  go_ret
  exact ⟨rfl, b8⟩
end Go.Proofs.YtjfecechagoepaaDoor
