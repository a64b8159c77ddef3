/- meta.Decode behind its first test. -/
import Derived.Test.YtenalocpmigppaaGreatDoorMi
import Derived.Test.YtenalocpmigppaaGreatDoorWg8
import Derived.Test.YtenalocpmigppaaGreatDoorWg32
import Derived.Test.YtenalocpmigppaaGreatDoorWg64
namespace Go.Proofs.YtenalocpmigppaaGreatDoor
open Go.RowKit

theorem Get8_at (g : Nat) (xs : List UInt8) (p q V : Nat) (w : World) (h : Rd w g (xs.drop 4) p 0) (HL : Hid (xs.length = 4092)) (hp : q ≤ 4088) (hq : p + 1 = q) (HV : Hid (numAt xs (4 + p) 1 = V)) :
    Calls Tryz.prog 73 #[.pointer (some ⟨g, 0, none⟩)] w fun e w' => e = .returned (.int .u8 (V : Int)) ∧ Rd w' g (xs.drop 4) q 0 ∧ w.grownBy w' (some g) := by
  subst hq
  have := Get8_ok g (xs.drop 4) p w h (by rw [List.length_drop, HL.out]; omega)
  rw [List.drop_drop] at this
  have e := HV.out
  unfold numAt at e
  rw [e] at this
  exact this
theorem Get32_at (g : Nat) (xs : List UInt8) (p q V : Nat) (w : World) (h : Rd w g (xs.drop 4) p 0) (HL : Hid (xs.length = 4092)) (hp : q ≤ 4088) (hq : p + 4 = q) (HV : Hid (numAt xs (4 + p) 4 = V)) :
    Calls Tryz.prog 72 #[.pointer (some ⟨g, 0, none⟩)] w fun e w' => e = .returned (.int .u32 (V : Int)) ∧ Rd w' g (xs.drop 4) q 0 ∧ w.grownBy w' (some g) := by
  subst hq
  have := Get32_ok g (xs.drop 4) p w h (by rw [List.length_drop, HL.out]; omega)
  rw [List.drop_drop] at this
  have e := HV.out
  unfold numAt at e
  rw [e] at this
  exact this
theorem Get64_at (g : Nat) (xs : List UInt8) (p q V : Nat) (w : World) (h : Rd w g (xs.drop 4) p 0) (HL : Hid (xs.length = 4092)) (hp : q ≤ 4088) (hq : p + 8 = q) (HV : Hid (numAt xs (4 + p) 8 = V)) :
    Calls Tryz.prog 71 #[.pointer (some ⟨g, 0, none⟩)] w fun e w' => e = .returned (.int .u64 (V : Int)) ∧ Rd w' g (xs.drop 4) q 0 ∧ w.grownBy w' (some g) := by
  subst hq
  have := Get64_ok g (xs.drop 4) p w h (by rw [List.length_drop, HL.out]; omega)
  rw [List.drop_drop] at this
  have e := HV.out
  unfold numAt at e
  rw [e] at this
  exact this

theorem bytes_beq (er xs : List UInt8) : ((⟨er.toArray⟩ : ByteArray).toList == (⟨xs.toArray⟩ : ByteArray).toList) = decide (er = xs) := by
  rw [ByteArray.toList_eq, ByteArray.toList_eq, Bool.eq_iff_iff]; simp
/-- A reader stays where a head's block alone is written. -/
theorem Rd.aside {w w' : World} {g gh : Nat} {B : List UInt8} {at_ : Nat} {e : Int} {v n r h k f ee : Int} (q : Rd w g B at_ e) (gx : w.grownBy w' (some gh)) (hh : HC w gh v n r h k f ee) (ne : gh ≠ g) : Rd w' g B at_ e := by
  obtain ⟨t, gb, m, c, h1, h2, h3, h4, h5⟩ := q.row
  have hne : gb ≠ gh := by
    rintro rfl
    obtain ⟨_, cur, q1, _⟩ := OC.block h2
    obtain ⟨_, cur', q2, _⟩ := OC.block hh
    rw [q1] at q2
    injection q2 with q2
    injection q2 with _ q2
    exact absurd q2 (by decide)
  exact ⟨t, gb, m, c, h1.same (Sm.of_grown gx h1.lt (by simpa using fun e => ne e.symm)), h2.same (Sm.of_grown gx h2.lt (by simpa using hne)), h3, h4, h5⟩

/-- The numbers of a body. -/
structure Nums (xs : List UInt8) (V N R H K F E : Nat) (VI KI : Int) : Prop where
  v : Hid (numAt xs (4 + 0) 8 = V)
  n : Hid (numAt xs (4 + 8) 4 = N)
  r : Hid (numAt xs (4 + 12) 4 = R)
  h : Hid (numAt xs (4 + 16) 1 = H)
  k : Hid (numAt xs (4 + 17) 8 = K)
  f : Hid (numAt xs (4 + 25) 4 = F)
  e : Hid (numAt xs (4 + 29) 4 = E)
  vi : IntKind.i64.wrap (V : Int) = VI
  ki : IntKind.i64.wrap (K : Int) = KI
  wn : IntKind.i64.wrap (N : Int) = N
  wr : IntKind.i64.wrap (R : Int) = R
  wh : IntKind.i64.wrap (H : Int) = H
  wf : IntKind.i64.wrap (F : Int) = F
  we : IntKind.i64.wrap (E : Int) = E
  n8 : I64 N
def headV (b : Bool) (v n r h k f e : Int) : Value := if b then .agg #[.int .i64 v, .int .i64 n, .int .i64 r, .int .i64 h, .int .i64 k, .int .i64 f, .int .i64 e] else zeroHead
def codeV (b : Bool) : Int := if b then 0 else 70

set_option maxRecDepth 100000 in
set_option maxHeartbeats 4000000 in
theorem Decode_main (ad : Addr) (c : Nat) (xs : List UInt8) (w : World) (a b d f a' b' d' f' : UInt8) (hq : Marked w ad a b d f a' b' d' f') (hx : RB w (some ad) 4092 c xs) (hM : Marks w) (hb : decide (a.toNat = 5 ∧ b.toNat = 99 ∧ d.toNat = 111 ∧ f.toNat = 112) = true) (he : decide (a'.toNat = 101 ∧ b'.toNat = 110 ∧ d'.toNat = 100 ∧ f'.toNat = 46) = true)
    (V N R H K F E : Nat) (VI KI : Int) (hN : Nums xs V N R H K F E VI KI) (q : Bool) (hqq : Hid ((mayB VI N R H KI F E && decide (bodyB VI.toNat N R H KI.toNat F E = xs)) = q)) :
    Calls Tryz.prog 35 #[.slice (some ad) 4092 c] w fun en w' => en = .returned (.tuple #[headV q VI N R H KI F E, .int .i64 (codeV q)]) ∧ Below w.heap.size w w' := by
  have hc := RC.le hx
  have hlt : ad.block < w.heap.size := hx.block_lt (by decide)
  have HL := hideIt hx.len
  have hcut : RB w (some ⟨ad.block, ad.off + 4, none⟩) 4088 (c - 4) (xs.drop 4) := by
    have h2 := hx.cut (A' := some ⟨ad.block, ad.off + 4, none⟩) 4 4092 c (by omega) (Nat.le_refl _) hc (Nat.le_refl _) (fun _ => by simp [Addr.add]) (fun e => by cases e)
    have e : (xs.drop 4).take (4092 - 4) = xs.drop 4 := List.take_of_length_le (by rw [List.length_drop, HL.out]; omega)
    rwa [e] at h2
  have hcn4 : ¬ (c = 4) := by omega
  have haa : ∀ (W : World) (m : Nat), (Instr.arrayAt 96 (.slice (some ad) 4 m)).run Tryz.prog W = .ok (.pointer (some ad)) W := fun W m => run_arrayAt (P := Tryz.prog) (w := W) 96 5 4 _ 4 _ Tryz.underlying96 (Nat.le_refl _)
  have hae : ∀ (W : World) (m : Nat), (Instr.arrayAt 96 (.slice (some ⟨ad.block, ad.off + 4088, none⟩) 4 m)).run Tryz.prog W = .ok (.pointer (some ⟨ad.block, ad.off + 4088, none⟩)) W := fun W m => run_arrayAt (P := Tryz.prog) (w := W) 96 5 4 _ 4 _ Tryz.underlying96 (Nat.le_refl _)
  have heq : ∀ W : World, (Op.equalIn 10000 96 (.agg #[.int .u8 (a.toNat : Int), .int .u8 (b.toNat : Int), .int .u8 (d.toNat : Int), .int .u8 (f.toNat : Int)]) (.agg #[.int .u8 5, .int .u8 99, .int .u8 111, .int .u8 112])).run Tryz.prog W = .ok true W := by
    intro W
    have := run_equal_four a.toNat b.toNat d.toNat f.toNat 5 99 111 112 W
    rw [hb] at this
    exact this
  have hee : ∀ W : World, (Op.equalIn 10000 96 (.agg #[.int .u8 (a'.toNat : Int), .int .u8 (b'.toNat : Int), .int .u8 (d'.toNat : Int), .int .u8 (f'.toNat : Int)]) (.agg #[.int .u8 101, .int .u8 110, .int .u8 100, .int .u8 46])).run Tryz.prog W = .ok true W := by
    intro W
    have := run_equal_four a'.toNat b'.toNat d'.toNat f'.toNat 101 110 100 46 W
    rw [he] at this
    exact this
  have hb0 := below1 w (.cells #[.int .i64 0, .int .i64 0, .int .i64 0, .int .i64 0, .int .i64 0, .int .i64 0, .int .i64 0] 66)
  have hC := HC.new w 0 0 0 0 0 0 0
  obtain ⟨k0, k1, k2, k3, k4, k5, k6, k7⟩ := hM.below hb0
  obtain ⟨c0, c1, c2, c3, e0, e1, e2, e3⟩ := hq
  replace c0 := (hb0.cell (p := ad) hlt).trans c0
  replace c1 := (hb0.cell (p := ⟨ad.block, ad.off + 1, none⟩) hlt).trans c1
  replace c2 := (hb0.cell (p := ⟨ad.block, ad.off + 2, none⟩) hlt).trans c2
  replace c3 := (hb0.cell (p := ⟨ad.block, ad.off + 3, none⟩) hlt).trans c3
  replace e0 := (hb0.cell (p := ⟨ad.block, ad.off + (4088 + 0), none⟩) hlt).trans e0
  replace e1 := (hb0.cell (p := ⟨ad.block, ad.off + (4088 + 1), none⟩) hlt).trans e1
  replace e2 := (hb0.cell (p := ⟨ad.block, ad.off + (4088 + 2), none⟩) hlt).trans e2
  replace e3 := (hb0.cell (p := ⟨ad.block, ad.off + (4088 + 3), none⟩) hlt).trans e3
  have hci : (4 : Int) ≤ c := by omega
  have hci2 : (4088 : Int) ≤ c := by omega
  have hci3 : (4092 : Int) ≤ c := by omega
  have hcn : ¬ (c = 4088) := by omega
  clear hb he
  go_enter Tryz.func35, Tryz.ntmps35
  go_wp2
  generalize w.alloc (.cells #[.int .i64 0, .int .i64 0, .int .i64 0, .int .i64 0, .int .i64 0, .int .i64 0, .int .i64 0] 66) = w1 at *
  go_quiet (fail)
  clear k0 k1 k2 k3 k4 k5 k6 k7 c0 c1 c2 c3 e0 e1 e2 e3 haa hae heq hee
  have b2 := below_drewN hb0 nq
  have hC2 : HC (w1.drewN nq) w.heap.size 0 0 0 0 0 0 0 := hC.below (below_drewN (Below.refl _ _) nq)
  clear hb0 hC
  generalize w1.drewN nq = w2 at *
  clear w1 nq
  have cut2 := hcut.below b2
  go_upto_region 4 with (go_at_call 46; refine (NewReader_calls _ _ _ _ _ cut2 (by omega)).mono ?_; rintro en w3 ⟨g, rfl, s3, rd3, x3⟩)
  have ne : w.heap.size ≠ g := Nat.ne_of_lt (Nat.lt_of_lt_of_le hC2.lt s3)
  have gw : w.heap.size ≤ g := Nat.le_trans b2.size s3
  have hC3 := hC2.below x3
  have b3 := b2.trans (x3.mono b2.size)
  clear x3 s3 b2 hC2 cut2 hcut
  obtain ⟨Nv, Nn, Nr, Nh, Nk, Nf, Ne, vi, ki, wn, wr, wh, wf, we, n8⟩ := hN
  go_upto_region 5 with (first
    | (go_at_call 72; refine (Get32_at g xs 12 16 R _ rd5 HL (by omega) rfl Nr).mono ?_; rintro en w6 ⟨rfl, rd6, gr6⟩; have hC6 := hC5.same (Sm.of_grown gr6 hC5.lt (by simpa using ne)); have b6 := b5.grown gr6 b5.size (by simpa using gw))
    | (go_at_call 72; refine (Get32_at g xs 8 12 N _ rd4 HL (by omega) rfl Nn).mono ?_; rintro en w5 ⟨rfl, rd5, gr5⟩; have hC5 := hC4.same (Sm.of_grown gr5 hC4.lt (by simpa using ne)); have b5 := b4.grown gr5 b4.size (by simpa using gw))
    | (go_at_call 71; refine (Get64_at g xs 0 8 V _ rd3 HL (by omega) rfl Nv).mono ?_; rintro en w4 ⟨rfl, rd4, gr4⟩; have hC4 := hC3.same (Sm.of_grown gr4 hC3.lt (by simpa using ne)); have b4 := b3.grown gr4 b3.size (by simpa using gw)))
  have hH7 : HC (w6.alloc (.cells #[.int .i64 VI, .int .i64 (N : Int), .int .i64 (R : Int), .int .i64 0, .int .i64 0, .int .i64 0, .int .i64 0] 66)) w6.heap.size VI N R 0 0 0 0 := HC.new w6 VI N R 0 0 0 0
  have x7 : Below w6.heap.size w6 (w6.alloc (.cells #[.int .i64 VI, .int .i64 (N : Int), .int .i64 (R : Int), .int .i64 0, .int .i64 0, .int .i64 0, .int .i64 0] 66)) := below1 w6 _
  have hC7 := hC6.below x7
  have rd7 := rd6.below x7
  have b7 := b6.trans (x7.mono b6.size)
  have neH : w6.heap.size ≠ g := fun e => by have := rd6.lt; omega
  have neC : w6.heap.size ≠ w.heap.size := fun e => by have := hC6.lt; omega
  have gH : w.heap.size ≤ w6.heap.size := b6.size
  clear x7 hC3 hC4 hC5 hC6 rd3 rd4 rd5 rd6 gr4 gr5 gr6 b3 b4 b5 b6
  generalize (w6.alloc (.cells #[.int .i64 VI, .int .i64 (N : Int), .int .i64 (R : Int), .int .i64 0, .int .i64 0, .int .i64 0, .int .i64 0] 66)) = w7 at *
  generalize w6.heap.size = gh at *
  clear w6
  go_upto_region 6 with (first
    | (go_at_call 71; refine (Get64_at g xs 17 25 K _ rd8 HL (by omega) rfl Nk).mono ?_; rintro en w9 ⟨rfl, rd9, gr9⟩; have hC9 := hC8.same (Sm.of_grown gr9 hC8.lt (by simpa using ne)); have b9 := b8.grown gr9 b8.size (by simpa using gw); have hH9 := hH8.same (Sm.of_grown gr9 hH8.lt (by simpa using neH)); have ca := (OC.cell hH9 3 _ rfl : w9.cell? ⟨gh, 3, none⟩ = some (.int .i64 0)); have fa := OC.free hH9 3; have cb := (OC.cell hH9 4 _ rfl : w9.cell? ⟨gh, 4, none⟩ = some (.int .i64 0)); have fb := OC.free hH9 4)
    | (go_at_call 73; refine (Get8_at g xs 16 17 H _ rd7 HL (by omega) rfl Nh).mono ?_; rintro en w8 ⟨rfl, rd8, gr8⟩; have hC8 := hC7.same (Sm.of_grown gr8 hC7.lt (by simpa using ne)); have b8 := b7.grown gr8 b7.size (by simpa using gw); have hH8 := hH7.same (Sm.of_grown gr8 hH7.lt (by simpa using neH))))
  have gx := (grownBy_set w9 gh 3 (.int .i64 (H : Int))).trans (grownBy_set _ gh 4 (.int .i64 KI))
  have hH20 : HC (World.setCell (World.setCell w9 ⟨gh, 3, none⟩ (.int .i64 (H : Int))) ⟨gh, 4, none⟩ (.int .i64 KI)) gh VI N R H KI 0 0 := OC.set (OC.set hH9 3 (.int .i64 (H : Int))) 4 (.int .i64 KI)
  have hC20 := hC9.same (Sm.of_grown gx hC9.lt (by simpa using fun e => neC (Eq.symm e)))
  have b20 := b9.grown gx b9.size (by simpa using gH)
  have rd20 := rd9.aside gx hH9 neH
  clear ca fa cb fb gx hH7 hH8 hH9 hC7 hC8 hC9 rd7 rd8 rd9 gr8 gr9 b7 b8 b9
  generalize (World.setCell (World.setCell w9 ⟨gh, 3, none⟩ (.int .i64 (H : Int))) ⟨gh, 4, none⟩ (.int .i64 KI)) = w20 at *
  clear w7 w8 w9
  go_upto_region 7 with (first
    | (go_at_call 72; refine (Get32_at g xs 29 33 E _ rd21 HL (by omega) rfl Ne).mono ?_; rintro en w22 ⟨rfl, rd22, gr22⟩; have hC22 := hC21.same (Sm.of_grown gr22 hC21.lt (by simpa using ne)); have b22 := b21.grown gr22 b21.size (by simpa using gw); have hH22 := hH21.same (Sm.of_grown gr22 hH21.lt (by simpa using neH)); have ca := (OC.cell hH22 5 _ rfl : w22.cell? ⟨gh, 5, none⟩ = some (.int .i64 0)); have fa := OC.free hH22 5; have cb := (OC.cell hH22 6 _ rfl : w22.cell? ⟨gh, 6, none⟩ = some (.int .i64 0)); have fb := OC.free hH22 6)
    | (go_at_call 72; refine (Get32_at g xs 25 29 F _ rd20 HL (by omega) rfl Nf).mono ?_; rintro en w21 ⟨rfl, rd21, gr21⟩; have hC21 := hC20.same (Sm.of_grown gr21 hC20.lt (by simpa using ne)); have b21 := b20.grown gr21 b20.size (by simpa using gw); have hH21 := hH20.same (Sm.of_grown gr21 hH20.lt (by simpa using neH))))
  have gx := (grownBy_set w22 gh 5 (.int .i64 (F : Int))).trans (grownBy_set _ gh 6 (.int .i64 (E : Int)))
  have hH30 : HC (World.setCell (World.setCell w22 ⟨gh, 5, none⟩ (.int .i64 (F : Int))) ⟨gh, 6, none⟩ (.int .i64 (E : Int))) gh VI N R H KI F E := OC.set (OC.set hH22 5 (.int .i64 (F : Int))) 6 (.int .i64 (E : Int))
  have hC30 := hC22.same (Sm.of_grown gx hC22.lt (by simpa using fun e => neC (Eq.symm e)))
  have b30 := b22.grown gx b22.size (by simpa using gH)
  clear ca fa cb fb gx hH20 hH21 hH22 hC20 hC21 hC22 rd20 rd21 rd22 gr21 gr22 b20 b21 b22
  generalize (World.setCell (World.setCell w22 ⟨gh, 5, none⟩ (.int .i64 (F : Int))) ⟨gh, 6, none⟩ (.int .i64 (E : Int))) = w30 at *
  clear w20 w21 w22
  clear w4 w5 w3 w2
  obtain ⟨i0, i1, i2, i3, i4, i5, i6, i7⟩ := hH30.at_
  go_upto_region 8 with (go_at_call 33; refine (Encode_any _ _ _ _ _ _ _ _ n8 (hM.below b30)).mono ?_; rintro en w31 ⟨A1, n1, c1, rfl, ro, x31⟩)
  have hC31 := hC30.below x31
  have hH31 := hH30.below x31
  have b31 := b30.trans (x31.mono b30.size)
  have x1 := hx.below b31
  clear i0 i1 i2 i3 i4 i5 i6 i7 x31 hC30 hH30 b30 w30 Nv Nn Nr Nh Nk Nf Ne
  obtain ⟨i0, i1, i2, i3, i4, i5, i6, i7⟩ := hH31.at_
  have r0 := (OC.cell hC31 0 _ rfl : w31.cell? ⟨w.heap.size, 0, none⟩ = some (.int .i64 0))
  have fz0 := OC.free hC31 0
  have r1 := (OC.cell hC31 1 _ rfl : w31.cell? ⟨w.heap.size, 1, none⟩ = some (.int .i64 0))
  have fz1 := OC.free hC31 1
  have r2 := (OC.cell hC31 2 _ rfl : w31.cell? ⟨w.heap.size, 2, none⟩ = some (.int .i64 0))
  have fz2 := OC.free hC31 2
  have r3 := (OC.cell hC31 3 _ rfl : w31.cell? ⟨w.heap.size, 3, none⟩ = some (.int .i64 0))
  have fz3 := OC.free hC31 3
  have r4 := (OC.cell hC31 4 _ rfl : w31.cell? ⟨w.heap.size, 4, none⟩ = some (.int .i64 0))
  have fz4 := OC.free hC31 4
  have r5 := (OC.cell hC31 5 _ rfl : w31.cell? ⟨w.heap.size, 5, none⟩ = some (.int .i64 0))
  have fz5 := OC.free hC31 5
  have r6 := (OC.cell hC31 6 _ rfl : w31.cell? ⟨w.heap.size, 6, none⟩ = some (.int .i64 0))
  have fz6 := OC.free hC31 6
  cases hm : mayB VI N R H KI F E
  · obtain rfl : q = false := by rw [← hqq.out, hm]; rfl
    rw [show encC VI N R H KI F E = 71 by unfold encC; rw [hm]; rfl] at *
    clear hm ro x1
    go_wp2
    refine ret_head (g := w.heap.size) (v := 0) (n := 0) (r := 0) (h := 0) (k := 0) (f := 0) (e := 0) (hC31.put7 0 0 0 0 0 0 0) rfl rfl rfl rfl ⟨rfl, ?_⟩
    exact b31.grown (put7_grown _ w.heap.size 0 0 0 0 0 0 0) b31.size (by simp)
  · have hq2 : decide (bodyB VI.toNat N R H KI.toNat F E = xs) = q := by rw [← hqq.out, hm]; rfl
    rw [show encC VI N R H KI F E = 0 by unfold encC; rw [hm]; rfl] at *
    rw [show encR VI N R H KI F E = bodyB VI.toNat N R H KI.toNat F E by unfold encR; rw [hm]; rfl] at ro
    generalize bodyB VI.toNat N R H KI.toNat F E = er at ro hq2
    have y1 := conv_str (P := Tryz.prog) (src := 42) (dst := 9) w31 Tryz.underlying42 Tryz.underlying5 Tryz.underlying9 ro
    have y2 := conv_str (P := Tryz.prog) (src := 42) (dst := 9) w31 Tryz.underlying42 Tryz.underlying5 Tryz.underlying9 x1
    have hs : ((⟨er.toArray⟩ : ByteArray).toList == (⟨xs.toArray⟩ : ByteArray).toList) = q := by rw [← hq2]; exact bytes_beq er xs
    generalize (⟨er.toArray⟩ : ByteArray) = s1 at y1 hs
    generalize (⟨xs.toArray⟩ : ByteArray) = s2 at y2 hs
    clear hm hq2 hqq ro x1
    cases q
    · go_wp2
      refine ret_head (g := w.heap.size) (v := 0) (n := 0) (r := 0) (h := 0) (k := 0) (f := 0) (e := 0) (hC31.put7 0 0 0 0 0 0 0) rfl rfl rfl rfl ⟨rfl, ?_⟩
      exact b31.grown (put7_grown _ w.heap.size 0 0 0 0 0 0 0) b31.size (by simp)
    · go_wp2
      refine ret_head (g := w.heap.size) (v := VI) (n := N) (r := R) (h := H) (k := KI) (f := F) (e := E) (hC31.put7 VI N R H KI F E) rfl rfl rfl rfl ⟨rfl, ?_⟩
      exact b31.grown (put7_grown _ w.heap.size VI N R H KI F E) b31.size (by simp)
end Go.Proofs.YtenalocpmigppaaGreatDoor
