/- The walks of the laws CrcJoins, CrcBehind, CrcBack. -/
import Derived.Test.YtjfecechagoepaaDoorCrcU
namespace Go.Proofs.YtjfecechagoepaaDoor
open Go.RowKit

theorem Update0_calls (A : Option Addr) (n c : Nat) (xs : List UInt8) (w : World) (hx : RB w A n c xs) (hb : n ≤ 140737488351232) (hg : Tab w) :
    Calls Tryd.prog 19 #[.int .u32 0, .slice A n c] w fun e w' => e = .returned (.int .u32 (n32 (Crc.sum xs))) ∧ w = w' :=
  Update_calls 0#32 A n c xs w hx hb hg

/-- 'one of three is too long' or none. -/
theorem three (a b c : Nat) : (65536 < a ∨ (a ≤ 65536 ∧ 65536 < b) ∨ (a ≤ 65536 ∧ b ≤ 65536 ∧ 65536 < c)) ∨ (a ≤ 65536 ∧ b ≤ 65536 ∧ c ≤ 65536) := by omega

set_option maxRecDepth 100000 in
set_option maxHeartbeats 2000000 in
theorem CrcJoins_walk (A0 : Option Addr) (n0 c0 : Nat) (xs : List UInt8) (A1 : Option Addr) (n1 c1 : Nat) (ys : List UInt8) (A2 : Option Addr) (n2 c2 : Nat) (zs : List UInt8) (r : BitVec 32) (w : World)
    (hx : RB w A0 n0 c0 xs) (_hb0 : n0 ≤ 140737488351232) (hy : RB w A1 n1 c1 ys) (_hb1 : n1 ≤ 140737488351232) (hz : RB w A2 n2 c2 zs) (_hb2 : n2 ≤ 140737488351232) (hg : Tab w) :
    Calls Tryd.prog 7 #[.slice A0 n0 c0, .slice A1 n1 c1, .slice A2 n2 c2, .int .u32 (n32 r)] w fun e w' => e = .returned (.bool true) ∧ Below w.heap.size w w' := by
  rcases three n0 n1 n2 with (h | ⟨h, h'⟩ | ⟨h, h', h''⟩) | ⟨h, h', h''⟩
  · have k1 : (65536 : Int) < n0 := by omega
    go_enter Tryd.func7, Tryd.ntmps7
    go_wp2_with (go_at_call 13; refine (first_calls _ hg).mono ?_; rintro e w1 ⟨rfl, b1⟩)
    go_ret
    exact ⟨rfl, b1⟩
  · have k1 : (n0 : Int) ≤ 65536 := by omega
    have k2 : (65536 : Int) < n1 := by omega
    go_enter Tryd.func7, Tryd.ntmps7
    go_wp2_with (go_at_call 13; refine (first_calls _ hg).mono ?_; rintro e w1 ⟨rfl, b1⟩)
    go_ret
    exact ⟨rfl, b1⟩
  · have k1 : (n0 : Int) ≤ 65536 := by omega
    have k2 : (n1 : Int) ≤ 65536 := by omega
    have k3 : (65536 : Int) < n2 := by omega
    go_enter Tryd.func7, Tryd.ntmps7
    go_wp2_with (go_at_call 13; refine (first_calls _ hg).mono ?_; rintro e w1 ⟨rfl, b1⟩)
    go_ret
    exact ⟨rfl, b1⟩
  have k1 : (n0 : Int) ≤ 65536 := by omega
  have k2 : (n1 : Int) ≤ 65536 := by omega
  have k3 : (n2 : Int) ≤ 65536 := by omega
  have u1 : Crc.update (Crc.sum xs) ys = Crc.sum (xs ++ ys) := Crc.update_append 0#32 xs ys
  have u2 : Crc.update (Crc.sum (xs ++ ys)) zs = Crc.sum (xs ++ (ys ++ zs)) := by rw [← List.append_assoc]; exact Crc.update_append 0#32 (xs ++ ys) zs
  have u3 : Crc.update (Crc.update r xs) ys = Crc.update r (xs ++ ys) := Crc.update_append r xs ys
  have u4 : Crc.update r [] = r := by unfold Crc.update Crc.reg; simp
  go_enter Tryd.func7, Tryd.ntmps7
  go_wp2_with (first
    | (go_at_call 19; ((with_reducible refine (Update0_calls _ _ _ _ _ z5 (by omega) t5).mono ?_); rintro e w6 ⟨rfl, rfl⟩))
    | (go_at_call 19; ((with_reducible refine (Update_calls _ _ _ _ _ _ (RB.nil _) (by omega) t5).mono ?_); rintro e w6 ⟨rfl, rfl⟩))
    | (go_at_call 19; ((with_reducible refine (Update_calls _ _ _ _ _ _ o35.read (by omega) t5).mono ?_); rintro e w6 ⟨rfl, rfl⟩))
    | (go_at_call 19; ((with_reducible refine (Update_calls _ _ _ _ _ _ x5 (by omega) t5).mono ?_); rintro e w6 ⟨rfl, rfl⟩))
    | (go_at_call 19; ((with_reducible refine (Update_calls _ _ _ _ _ _ y5 (by omega) t5).mono ?_); rintro e w6 ⟨rfl, rfl⟩))
    | (go_at_call 19; ((with_reducible refine (Update_calls _ _ _ _ _ _ z5 (by omega) t5).mono ?_); rintro e w6 ⟨rfl, rfl⟩))
    | (go_at_call 15; ((with_reducible refine (crcSum_calls _ _ _ _ _ x5 (by omega) t5).mono ?_); rintro e w6 ⟨rfl, rfl⟩))
    | (go_at_call 15; ((with_reducible refine (crcSum_calls _ _ _ _ _ z5 (by omega) t5).mono ?_); rintro e w6 ⟨rfl, rfl⟩))
    | (go_at_call 15; ((with_reducible refine (crcSum_calls _ _ _ _ _ o35.read (by omega) t5).mono ?_); rintro e w6 ⟨rfl, rfl⟩))
    | (go_at_call 15; ((with_reducible refine (crcSum_calls _ _ _ _ _ o5.read (by omega) t5).mono ?_); rintro e w6 ⟨rfl, rfl⟩))
    | (at_builtin; refine wpB_app rfl _ _ rfl _ _ _ _ rfl o4 _ _ _ _ rfl z4 (n0 + n1 + n2) rfl (by omega) ?_; intro g5 d5 w5 q5 p5 o5 k5; have l4 := o4.lt; have b5 := b4.grown k5 b4.size (by simp; omega); have x5 := hx.below b5; have y5 := hy.below b5; have z5 := hz.below b5; have t5 := hg.below b5; have o35 := o34.same (Sm.of_grown k5 (Nat.lt_of_lt_of_le l3 b4'.size) (by simp; omega)))
    | (go_at_call 18; refine (Bytes_calls _ _ _ _ _ o3.read (by omega)).mono ?_; rintro e w4 ⟨g4, d4, rfl, s4, o4, b4'⟩; have b4 := b3.trans (b4'.mono b3.size); have z4 := hz.below b4; have o34 := o3.below b4')
    | (at_builtin; refine wpB_app rfl _ _ rfl _ _ _ _ rfl o2 _ _ _ _ rfl y2 (n0 + n1) rfl (by omega) ?_; intro g3 d3 w3 q3 p3 o3 k3'; have l2 := o2.lt; have l3 := o3.lt; have b3 := b2.grown k3' b2.size (by simp; omega))
    | (go_at_call 18; refine (Bytes_calls _ _ _ _ _ h1 (by omega)).mono ?_; rintro e w2 ⟨g2, d2, rfl, s2, o2, b2'⟩; have z1 := b1.size; have b2 := b1.trans (b2'.mono z1); have y2 := hy.below b2)
    | (go_at_call 13; refine (first_calls _ hg).mono ?_; rintro e w1 ⟨rfl, b1⟩; have h1 := hx.below b1))
  go_ret
  exact ⟨rfl, b5⟩

section
attribute [local go_sem] n32_by0 n32_by1 n32_by2 n32_by3 n32_by3' n32_nonneg n32_le u8_idem
theorem n32_magic : n32 0x2144DF1C#32 = (558161692 : Int) := by unfold n32; simp

set_option maxRecDepth 100000 in
set_option maxHeartbeats 1000000 in
theorem CrcBehind_walk (A : Option Addr) (n c : Nat) (xs : List UInt8) (w : World) (hx : RB w A n c xs) (_hb : n ≤ 140737488351232) (hg : Tab w) :
    Calls Tryd.prog 8 #[.slice A n c] w fun e w' => e = .returned (.bool true) ∧ Below w.heap.size w w' := by
  by_cases hbig : 65536 < n
  · have hbig' : (65536 : Int) < n := by omega
    go_enter Tryd.func8, Tryd.ntmps8
    go_wp2_with (go_at_call 13; refine (first_calls _ hg).mono ?_; rintro e w1 ⟨rfl, b1⟩)
    go_ret
    exact ⟨rfl, b1⟩
  have hsmall : (n : Int) ≤ 65536 := by omega
  have u1 : n32 (Crc.sum (xs ++ Crc.tail4 (Crc.sum xs))) = (558161692 : Int) := by rw [Crc.sum_behind, n32_magic]
  have hn := n32_nonneg (Crc.sum xs)
  have hle := n32_le (Crc.sum xs)
  go_enter Tryd.func8, Tryd.ntmps8
  go_wp2_with (first
    | (go_at_call 15; refine (crcSum_calls _ _ _ _ _ o3.read (by omega) (hg.below b3)).mono ?_; rintro e w4 ⟨rfl, rfl⟩)
    | (at_builtin; have o2' := o2.below ((Below.refl _ _).alloc (Nat.le_refl _) (.cells (u8s (Crc.tail4 (Crc.sum xs))).toArray 5)); refine wpB_app rfl _ _ rfl _ _ _ _ rfl o2' _ _ _ (Crc.tail4 (Crc.sum xs)) rfl (RB.lit w2 (Crc.tail4 (Crc.sum xs)) 4 rfl (by simp [maxLen])).read (n + 4) rfl (by omega) ?_; intro g3 d3 w3 q3 p3 o3 k3; have z1 := b1.size; have z2 := b2'.size; have b3 := ((b1.trans (b2'.mono z1)).alloc (Nat.le_trans z1 z2) _).grown k3 (by simp; omega) (by simp; omega))
    | (go_at_call 18; refine (Bytes_calls _ _ _ _ _ h1 (by omega)).mono ?_; rintro e w2 ⟨g2, d2, rfl, s2, o2, b2'⟩; have l2 := o2.lt)
    | (go_at_call 15; refine (crcSum_calls _ _ _ _ _ h1 (by omega) (hg.below b1)).mono ?_; rintro e w2 ⟨rfl, rfl⟩)
    | (go_at_call 13; refine (first_calls _ hg).mono ?_; rintro e w1 ⟨rfl, b1⟩; have h1 := hx.below b1))
  go_ret
  exact ⟨rfl, b3⟩

theorem pad4 (xs : List UInt8) : ∃ ys a b d f, pad xs 4096 = ys ++ [a, b, d, f] ∧ ys.length = 4092 := by
  obtain ⟨a, b, d, f, h⟩ := list4 ((pad xs 4096).drop 4092) (by rw [List.length_drop, pad_length])
  exact ⟨(pad xs 4096).take 4092, a, b, d, f, by rw [← h, List.take_append_drop], by rw [List.length_take, pad_length]; rfl⟩
theorem page_cell {w : World} {g c : Nat} {xs : List UInt8} (h : OB w g 4096 c (xs ++ Crc.tail4 (Crc.sum xs))) : w.cell? ⟨g, 4092, none⟩ = some (.int .u8 ((by0 (Crc.sum xs)).toNat : Int)) ∧ w.cell? ⟨g, 4093, none⟩ = some (.int .u8 ((by1 (Crc.sum xs)).toNat : Int)) ∧
    w.cell? ⟨g, 4094, none⟩ = some (.int .u8 ((by2 (Crc.sum xs)).toNat : Int)) ∧ w.cell? ⟨g, 4095, none⟩ = some (.int .u8 ((by3 (Crc.sum xs)).toNat : Int)) := by
  have hl := h.len
  rw [List.length_append] at hl
  have hx : xs.length = 4092 := by simp only [tail4_by, List.length_cons, List.length_nil] at hl; omega
  have key : ∀ j u, (Crc.tail4 (Crc.sum xs))[j]? = some u → w.cell? ⟨g, 4092 + j, none⟩ = some (.int .u8 (u.toNat : Int)) := by
    intro j u hu
    refine OC.cell h (4092 + j) _ ?_
    rw [u8s_append, List.getElem?_append_right (by rw [u8s_length]; omega), u8s_length, hx, Nat.add_sub_cancel_left, u8s, List.getElem?_map, hu]; rfl
  exact ⟨key 0 _ rfl, key 1 _ rfl, key 2 _ rfl, key 3 _ rfl⟩
theorem page_body {w : World} {g c : Nat} {xs : List UInt8} (h : OB w g 4096 c (xs ++ Crc.tail4 (Crc.sum xs))) : RB w (some ⟨g, 0, none⟩) 4092 c xs ∧ 4096 ≤ c := by
  have hl := h.len
  rw [List.length_append] at hl
  have hx : xs.length = 4092 := by simp only [tail4_by, List.length_cons, List.length_nil] at hl; omega
  have := h.read.take 4092 (by omega)
  rw [← hx, List.take_left, hx] at this
  exact ⟨this, OC.le h⟩

set_option maxRecDepth 100000 in
set_option maxHeartbeats 2000000 in
theorem CrcBack_walk (A0 : Option Addr) (n0 c0 : Nat) (xs : List UInt8) (A1 : Option Addr) (n1 c1 : Nat) (ys : List UInt8) (w : World)
    (hx : RB w A0 n0 c0 xs) (_hb0 : n0 ≤ 140737488351232) (hy : RB w A1 n1 c1 ys) (_hb1 : n1 ≤ 140737488351232) (hg : Tab w) :
    Calls Tryd.prog 9 #[.slice A0 n0 c0, .slice A1 n1 c1] w fun e w' => e = .returned (.bool true) ∧ Below w.heap.size w w' := by
  have hn := n32_nonneg (Crc.sum (pad xs 4092))
  have hle := n32_le (Crc.sum (pad xs 4092))
  obtain ⟨ps, a, b, d, f, hp, hpl⟩ := pad4 ys
  have HP := hideIt hp
  have HPL := hideIt hpl
  clear hp hpl
  by_cases hd : [a, b, d, f] = Crc.tail4 (Crc.sum ps)
  · have HD := hideIt hd
    clear hd
    go_enter Tryd.func9, Tryd.ntmps9
    go_wp2_with (first
      | (go_at_call 24; refine (num_calls _ _).mono ?_; rintro e w9 ⟨rfl, rfl⟩)
      | (go_at_call 23; refine (SameBytes_calls _ _ _ _ _ _ _ _ _ o8.read (o5.below (b6'.trans (b7'.mono b6'.size))).read true (by simp)).mono ?_; rintro e w9 ⟨rfl, rfl⟩)
      | (go_at_call 21; refine (Seal_ok _ _ _ _ o6.read (hg.below b6)).mono ?_; rintro e w7 ⟨g8, d8, rfl, s8, o8, b7'⟩; have b7 := b6.trans (b7'.mono b6.size))
      | (go_at_call 27; rw [HP.out, HD.out] at o5; refine (Open_ok _ _ _ _ o5.read (hg.below b5)).mono ?_; rintro e w6 ⟨g6, d6, rfl, s6, o6, b6'⟩; have b6 := b5.trans (b6'.mono b5.size))
      | (go_at_call 26; refine (padded_calls _ _ _ 4096 _ _ (hy.below b4) (by omega)).mono ?_; rintro e w5 ⟨g5, rfl, s5, o5, b5'⟩; have b5 := b4.trans (b5'.mono b4.size))
      | (go_at_call 23; ((with_reducible refine (SameBytes_calls _ _ _ _ _ _ _ _ _ o4.read o24.read true (by simp)).mono ?_); rintro e w9 ⟨rfl, rfl⟩))
      | (go_at_call 23; ((with_reducible refine (SameBytes_calls _ _ _ _ _ _ _ _ _ r34 o24.read true (by simp)).mono ?_); rintro e w9 ⟨rfl, rfl⟩))
      | (go_at_call 27; refine (Open_ok _ _ _ _ o3.read (hg.below b3)).mono ?_; rintro e w4 ⟨g4, d4, rfl, s4, o4, b4'⟩; have b4 := b3.trans (b4'.mono b3.size); have r34 := (page_body o3).1.below b4'; have o24 := o23.below b4')
      | (go_at_call 15; refine (crcSum_calls _ _ _ _ _ o23.read (by omega) (hg.below b3)).mono ?_; rintro e w9 ⟨rfl, rfl⟩)
      | (go_at_call 21; refine (Seal_ok _ _ _ _ o2.read (hg.below b2)).mono ?_; rintro e w3 ⟨g3, d3, rfl, s3, o3, b3'⟩; have b3 := b2.trans (b3'.mono b2.size); have o23 := o2.below b3'; obtain ⟨p0, p1, p2, p3⟩ := page_cell o3; have l3 := (page_body o3).2)
      | (go_at_call 26; refine (padded_calls _ _ _ 4092 _ _ (hx.below b1) (by omega)).mono ?_; rintro e w2 ⟨g2, rfl, s2, o2, b2'⟩; have b2 := b1.trans (b2'.mono b1.size))
      | (go_at_call 13; refine (first_calls _ hg).mono ?_; rintro e w1 ⟨rfl, b1⟩))
    go_ret
    exact ⟨rfl, b7⟩
  · have HD := hideIt hd
    clear hd
    go_enter Tryd.func9, Tryd.ntmps9
    go_wp2_with (first
      | (go_at_call 24; refine (num_calls _ _).mono ?_; rintro e w9 ⟨rfl, rfl⟩)
      | (go_at_call 27; rw [HP.out] at o5; refine (Open_no _ _ _ _ _ _ _ _ o5.read (hg.below b5) HD.out).mono ?_; rintro e w6 ⟨rfl, b6'⟩; have b6 := b5.trans (b6'.mono b5.size))
      | (go_at_call 26; refine (padded_calls _ _ _ 4096 _ _ (hy.below b4) (by omega)).mono ?_; rintro e w5 ⟨g5, rfl, s5, o5, b5'⟩; have b5 := b4.trans (b5'.mono b4.size))
      | (go_at_call 23; ((with_reducible refine (SameBytes_calls _ _ _ _ _ _ _ _ _ o4.read o24.read true (by simp)).mono ?_); rintro e w9 ⟨rfl, rfl⟩))
      | (go_at_call 23; ((with_reducible refine (SameBytes_calls _ _ _ _ _ _ _ _ _ r34 o24.read true (by simp)).mono ?_); rintro e w9 ⟨rfl, rfl⟩))
      | (go_at_call 27; refine (Open_ok _ _ _ _ o3.read (hg.below b3)).mono ?_; rintro e w4 ⟨g4, d4, rfl, s4, o4, b4'⟩; have b4 := b3.trans (b4'.mono b3.size); have r34 := (page_body o3).1.below b4'; have o24 := o23.below b4')
      | (go_at_call 15; refine (crcSum_calls _ _ _ _ _ o23.read (by omega) (hg.below b3)).mono ?_; rintro e w9 ⟨rfl, rfl⟩)
      | (go_at_call 21; refine (Seal_ok _ _ _ _ o2.read (hg.below b2)).mono ?_; rintro e w3 ⟨g3, d3, rfl, s3, o3, b3'⟩; have b3 := b2.trans (b3'.mono b2.size); have o23 := o2.below b3'; obtain ⟨p0, p1, p2, p3⟩ := page_cell o3; have l3 := (page_body o3).2)
      | (go_at_call 26; refine (padded_calls _ _ _ 4092 _ _ (hx.below b1) (by omega)).mono ?_; rintro e w2 ⟨g2, rfl, s2, o2, b2'⟩; have b2 := b1.trans (b2'.mono b1.size))
      | (go_at_call 13; refine (first_calls _ hg).mono ?_; rintro e w1 ⟨rfl, b1⟩))
    go_ret
    exact ⟨rfl, b6⟩
end
end Go.Proofs.YtjfecechagoepaaDoor
