/- The walks of the laws CrcBurst and CrcTwo. -/
import Derived.Test.YtjfecechagoepaaDoorCrcT
import Derived.Test.YtjfecechagoepaaDoorCrcJ
namespace Go.Proofs.YtjfecechagoepaaDoor
open Go.RowKit

theorem place32768 (a : Int) : ∃ (r : Int) (q : Nat), Int.tmod a 32768 = r ∧ -32768 < r ∧ r < 32768 ∧ r % 32768 = (q : Int) ∧ q < 32768 := by
  simpa using place a 32768 (by decide)
theorem place8 (a : Int) (n : Nat) (hn : 0 < n) : ∃ (r : Int) (q : Nat), Int.tmod a (8 * (n : Int)) = r ∧ -(8 * (n : Int)) < r ∧ r < 8 * (n : Int) ∧ r % (8 * (n : Int)) = (q : Int) ∧ q < 8 * n := by
  have := place a (8 * n) (by omega)
  simpa using this

/-! ### the plain law -/
theorem openC_reg (l : List UInt8) (hl : l.length = 4096) : (openC l == 22) = !decide (Crc.reg (~~~ 0#32) l = Crc.magic) := by
  obtain ⟨a, b, d, f, h4⟩ := list4 (l.drop 4092) (by rw [List.length_drop]; omega)
  have hsp : l = l.take 4092 ++ [a, b, d, f] := by rw [← h4, List.take_append_drop]
  have hi := Crc.opens_iff (l.take 4092) a b d f
  rw [← hsp] at hi
  unfold openC
  rw [if_pos hl, h4]
  by_cases h : [a, b, d, f] = Crc.tail4 (Crc.sum (l.take 4092))
  · rw [if_pos h, decide_eq_true (hi.1 h)]; rfl
  · rw [if_neg h, decide_eq_false (fun e => h (hi.2 e))]; rfl
theorem page_magic (ps : List UInt8) : Crc.reg (~~~ 0#32) (ps ++ Crc.tail4 (Crc.sum ps)) = Crc.magic := (Crc.opens_iff ps _ _ _ _).1 rfl
theorem page_length (ps : List UInt8) (h : ps.length = 4092) : (ps ++ Crc.tail4 (Crc.sum ps)).length = 4096 := by rw [List.length_append, h]; rfl
theorem sum_reg (xs ys : List UInt8) : (n32 (Crc.sum xs) == n32 (Crc.sum ys)) = decide (Crc.reg (~~~ 0#32) ys = Crc.reg (~~~ 0#32) xs) := by
  rw [Bool.eq_iff_iff, beq_iff_eq, decide_eq_true_eq]
  constructor
  · intro h
    have h1 : ~~~ Crc.reg (~~~ 0#32) xs = ~~~ Crc.reg (~~~ 0#32) ys := n32_inj h
    have h2 : ~~~ ~~~ Crc.reg (~~~ 0#32) xs = ~~~ ~~~ Crc.reg (~~~ 0#32) ys := by rw [h1]
    rw [BitVec.not_not, BitVec.not_not] at h2
    exact h2.symm
  · intro h
    show n32 (~~~ Crc.reg (~~~ 0#32) xs) = n32 (~~~ Crc.reg (~~~ 0#32) ys)
    rw [h]
theorem burst_page (ps : List UInt8) (h : ps.length = 4092) (p q : Nat) (hq : q < 32768) {Pg Q : List UInt8} (hP : ps ++ Crc.tail4 (Crc.sum ps) = Pg) (hQ : Crc.togs p q 32 0 Pg = Q) :
    (openC Q == 22) = Crc.some_ p q 32768 32 0 false := by
  subst hP hQ
  have hl := page_length ps h
  rw [openC_reg _ (by rw [Crc.togs_length]; exact hl)]
  have hb := Crc.reg_burst (~~~ 0#32) p q (ps ++ Crc.tail4 (Crc.sum ps)) (by rw [hl]; omega)
  rw [page_magic, hl, show 8 * 4096 = 32768 from rfl] at hb
  cases hs : Crc.some_ p q 32768 32 0 false with
  | false => rw [decide_eq_true (hb.2 hs)]; rfl
  | true => rw [decide_eq_false (fun e => by rw [hb.1 e] at hs; cases hs)]; rfl
theorem burst_sum (xs : List UInt8) (n : Nat) (hn : xs.length = n) (p q : Nat) (hq : q < 8 * n) {Y : List UInt8} (hY : Crc.togs p q 32 0 xs = Y) :
    (n32 (Crc.sum xs) == n32 (Crc.sum Y)) = !Crc.some_ p q (8 * n) 32 0 false := by
  subst hY hn
  rw [sum_reg]
  have hb := Crc.reg_burst (~~~ 0#32) p q xs (by omega)
  cases hs : Crc.some_ p q (8 * xs.length) 32 0 false with
  | false => rw [decide_eq_true (hb.2 hs)]; rfl
  | true => rw [decide_eq_false (fun e => by rw [hb.1 e] at hs; cases hs)]; rfl
theorem bne_of_beq {a b : Int} {s : Bool} (h : (a == b) = !s) : (a != b) = s := by
  unfold bne; rw [h, Bool.not_not]

set_option maxRecDepth 100000 in
set_option maxHeartbeats 2000000 in
theorem CrcBurst_walk (A : Option Addr) (n c : Nat) (xs : List UInt8) (a : Int) (p : BitVec 32) (w : World) (hx : RB w A n c xs) (_hb : n ≤ 140737488351232) (_ha : -9223372036854775808 ≤ a ∧ a ≤ 9223372036854775807) (hg : Tab w) :
    Calls Tryd.prog 10 #[.slice A n c, .int .i64 a, .int .u32 (n32 p)] w fun e w' => e = .returned (.bool true) ∧ Below w.heap.size w w' := by
  by_cases hbig : 65536 < n
  · have hbig' : (65536 : Int) < n := by omega
    go_enter Tryd.func10, Tryd.ntmps10
    go_wp2_with (go_at_call 13; refine (first_calls _ hg).mono ?_; rintro e w1 ⟨rfl, b1⟩)
    go_ret
    exact ⟨rfl, b1⟩
  have hsmall : (n : Int) ≤ 65536 := by omega
  obtain ⟨r1, q1, hr1, hr1a, hr1b, hq1, hq1l⟩ := place32768 a
  obtain ⟨Pg, hPg⟩ : ∃ l, pad xs 4092 ++ Crc.tail4 (Crc.sum (pad xs 4092)) = l := ⟨_, rfl⟩
  obtain ⟨Q, hQ⟩ : ∃ l, Crc.togs p.toNat q1 32 0 Pg = l := ⟨_, rfl⟩
  have hC := burst_page (pad xs 4092) (pad_length _ _) p.toNat q1 hq1l hPg hQ
  obtain ⟨s1, hs1⟩ : ∃ s, Crc.some_ p.toNat q1 32768 32 0 false = s := ⟨_, rfl⟩
  rw [hs1] at hC
  have HP := hideIt hPg
  have HQ := hideIt hQ
  have HL := hideIt hx.len
  clear hPg hQ
  rcases Nat.eq_zero_or_pos n with h0 | h0
  · have hn0 : ((8 : Int) * (n : Int) == 0) = true := by rw [beq_iff_eq]; omega
    clear h0
    go_enter Tryd.func10, Tryd.ntmps10
    go_wp2_with (first
      | (go_at_call 24; refine (num_calls _ _).mono ?_; rintro e w9 ⟨rfl, rfl⟩)
      | (go_at_call 27; refine (Open_any _ _ _ _ _ o4.read (hg.below b4)).mono ?_; rintro e w5 ⟨A5, n5, d5, rfl, r5, b5'⟩; have b5 := b4.trans (b5'.mono b4.size))
      | (go_at_call 28; refine (turned_calls _ _ _ _ q1 p _ o3.read (by omega) (by omega)).mono ?_; rintro e w4 ⟨g4, d4, rfl, s4, o4, b4'⟩; have b4 := b3.trans (b4'.mono b3.size); rw [HQ.out] at o4)
      | (go_at_call 21; refine (Seal_ok _ _ _ _ o2.read (hg.below b2)).mono ?_; rintro e w3 ⟨g3, d3, rfl, s3, o3, b3'⟩; have b3 := b2.trans (b3'.mono b2.size); rw [HP.out] at o3)
      | (go_at_call 26; refine (padded_calls _ _ _ 4092 _ _ (hx.below b1) (by omega)).mono ?_; rintro e w2 ⟨g2, rfl, s2, o2, b2'⟩; have b2 := b1.trans (b2'.mono b1.size))
      | (go_at_call 13; refine (first_calls _ hg).mono ?_; rintro e w1 ⟨rfl, b1⟩))
    go_ret
    exact ⟨rfl, b5⟩
  have hn0 : ((8 : Int) * (n : Int) == 0) = false := by rw [beq_eq_false_iff_ne]; omega
  obtain ⟨r2, q2, hr2, hr2a, hr2b, hq2, hq2l⟩ := place8 a n h0
  obtain ⟨Y, hY⟩ : ∃ l, Crc.togs p.toNat q2 32 0 xs = l := ⟨_, rfl⟩
  have hD := burst_sum xs n HL.out p.toNat q2 hq2l hY
  obtain ⟨t2, ht2⟩ : ∃ s, Crc.some_ p.toNat q2 (8 * n) 32 0 false = s := ⟨_, rfl⟩
  rw [ht2] at hD
  have hD' := bne_of_beq hD
  have HY := hideIt hY
  clear hY
  go_enter Tryd.func10, Tryd.ntmps10
  go_wp2_with (first
    | (go_at_call 24; refine (num_calls _ _).mono ?_; rintro e w9 ⟨rfl, rfl⟩)
    | (go_at_call 15; ((with_reducible refine (crcSum_calls _ _ _ _ _ o6.read (by omega) (hg.below b6)).mono ?_); rintro e w9 ⟨rfl, rfl⟩))
    | (go_at_call 15; ((with_reducible refine (crcSum_calls _ _ _ _ _ (hx.below b6) (by omega) (hg.below b6)).mono ?_); rintro e w9 ⟨rfl, rfl⟩))
    | (go_at_call 28; refine (turned_calls _ _ _ _ q2 p _ (hx.below b5) (by omega) (by omega)).mono ?_; rintro e w6 ⟨g6, d6, rfl, s6, o6, b6'⟩; have b6 := b5.trans (b6'.mono b5.size); rw [HY.out] at o6)
    | (go_at_call 27; refine (Open_any _ _ _ _ _ o4.read (hg.below b4)).mono ?_; rintro e w5 ⟨A5, n5, d5, rfl, r5, b5'⟩; have b5 := b4.trans (b5'.mono b4.size))
    | (go_at_call 28; refine (turned_calls _ _ _ _ q1 p _ o3.read (by omega) (by omega)).mono ?_; rintro e w4 ⟨g4, d4, rfl, s4, o4, b4'⟩; have b4 := b3.trans (b4'.mono b3.size); rw [HQ.out] at o4)
    | (go_at_call 21; refine (Seal_ok _ _ _ _ o2.read (hg.below b2)).mono ?_; rintro e w3 ⟨g3, d3, rfl, s3, o3, b3'⟩; have b3 := b2.trans (b3'.mono b2.size); rw [HP.out] at o3)
    | (go_at_call 26; refine (padded_calls _ _ _ 4092 _ _ (hx.below b1) (by omega)).mono ?_; rintro e w2 ⟨g2, rfl, s2, o2, b2'⟩; have b2 := b1.trans (b2'.mono b1.size))
    | (go_at_call 13; refine (first_calls _ hg).mono ?_; rintro e w1 ⟨rfl, b1⟩))
  go_ret
  exact ⟨rfl, b6⟩
end Go.Proofs.YtjfecechagoepaaDoor
