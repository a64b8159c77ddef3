/- coppicelaw2.CrcOwns. -/
import Derived.Test.YtenalocpmigppaaGreatDoorKp
import Derived.Test.YtenalocpmigppaaGreatDoorCrcF
namespace Go.Proofs.YtenalocpmigppaaGreatDoor
open Go.RowKit

def lay (ys xs : List UInt8) : List UInt8 := xs ++ ys.drop xs.length
theorem BookB.other {w w' : World} {gk base m cb cw g : Nat} {Ab Aw : Option Addr} {ps pw : List Slot} {xss : List (List UInt8)} (h : BookB w gk base m Ab cb Aw cw ps pw xss) (k : w.grownBy w' (some g)) (h1 : g < base) (h2 : g ≠ gk) : BookB w' gk base m Ab cb Aw cw ps pw xss := by
  have f : ∀ {n c : Nat} {A : Option Addr} {qs : List Slot}, LS w base 5 1 42 A n c qs (xss.map u8s) → LS w' base 5 1 42 A n c qs (xss.map u8s) := fun ls =>
    ls.other k (fun a ha e => by have := (GC.lt ls.row a ha).2; omega) (fun p hp a ha e => by have := (ls.lt p hp a ha).2; omega)
  refine ⟨h.bk.same (Sm.of_grown k h.bk.lt (by simp only [ne_eq, Option.some.injEq]; exact fun e => h2 e.symm)), f h.ls, f h.lw, h.ap⟩
def LtB (ps : List Slot) (S : Nat) : Prop := ∀ p ∈ ps, ∀ a, p.1 = some a → a.block < S
theorem LtB.snoc {ps : List Slot} {S g n c : Nat} (h : LtB ps S) (hg : S ≤ g) : LtB (ps ++ [(some ⟨g, 0, none⟩, n, c)]) (g + 1) := by
  intro p hp a ha
  rcases List.mem_append.1 hp with q | q
  · have := h p q a ha; omega
  · rw [List.mem_singleton] at q
    subst q
    cases ha
    exact Nat.lt_succ_self _
theorem LtB.ne {ps : List Slot} {S g : Nat} (h : LtB ps S) (hg : S ≤ g) : ∀ p ∈ ps, ∀ a b, p.1 = some a → (some ⟨g, 0, none⟩ : Option Addr) = some b → a.block ≠ b.block := by
  intro p hp a b ha hb
  have := h p hp a ha
  cases hb
  intro e
  have e : a.block = g := e
  omega
theorem lens_snoc {xss : List (List UInt8)} {K : Nat} (h : ∀ xs ∈ xss, xs.length ≤ K) {ys : List UInt8} (hy : ys.length ≤ K) : ∀ xs ∈ xss ++ [ys], xs.length ≤ K := by
  intro xs hx
  rcases List.mem_append.1 hx with q | q
  · exact h xs q
  · rw [List.mem_singleton] at q; rw [q]; exact hy
theorem lay_take {xs ys : List UInt8} {k : Nat} (h : xs.length = k) : (ys.take 0 ++ (xs.take k ++ ys.drop (0 + k))).take k = xs := by
  subst h
  simp
set_option maxRecDepth 100000 in
set_option maxHeartbeats 4000000 in
theorem CrcOwns_walk (A : Option Addr) (n c : Nat) (vs : List Value) (l : List (List UInt8)) (w : World) (hx : RM w A n c vs l) (hg : Tab w) :
    Calls Tryz.prog 4 #[.slice A n c] w fun en w' => en = .returned (.bool true) ∧ Below w.heap.size w w' := by
  go_enter Tryz.func4, Tryz.ntmps4
  go_upto_region 2 with (go_at_call 16; refine (first_calls _ hg).mono ?_; rintro en w1 ⟨rfl, b1⟩)
  go_upto_region 4 with fail
  have x3 := below1 w1 bookO
  have B3 : ∀ base, BookB (w1.alloc bookO) w1.heap.size base 0 none 0 none 0 [] [] [] := BookB.new w1
  have z3 : w1.heap.size < (w1.alloc bookO).heap.size := by simp
  have b2 := b1.trans (x3.mono b1.size)
  have hgk := b1.size
  go_upto_region 5 with (refine wp_book rfl ?_)
  change Code.wp _ _ _ _ (w1.alloc bookO)
  generalize w1.alloc bookO = w2 at *
  generalize w1.heap.size = gk at *
  clear x3 b1 w1
  go_upto_region 6 with (at_make; refine wpB_full rfl _ _ rfl _ _ _ _ 4099 rfl rfl rfl rfl (by omega) ?_; intro gp w3 s3 o3 k3)
  have x3 := below_of_grown k3 (Nat.le_refl _) (by simp)
  have B4 := (B3 (gp + 1)).below x3
  have b3 := b2.trans (x3.mono b2.size)
  have zp := o3.lt
  have hgp : gk < gp := by omega
  have hwp : w.heap.size ≤ gp := by omega
  clear x3 B3 b2 s3 k3 z3 w2
  go_upto_region 7 with fail
  go_loopw [6] (fun ii wr => ∃ (i m cb cw : Nat) (Ab Aw : Option Addr) (ps pw : List Slot) (yss : List (List UInt8)) (ys : List UInt8), i ≤ n ∧ i ≤ 20 ∧ Hid (m = 4 * i) ∧ ii = .int .i64 (i : Int) ∧ BookB wr gk (gp + 1) m Ab cb Aw cw ps pw yss ∧ Hid (∀ xs ∈ yss, xs.length ≤ 900000) ∧ OB wr gp 4099 4099 ys ∧ Below w.heap.size w wr)
    (fun ii _ => 20 - (intOf ii).toNat)
  case atStart => exact ⟨0, 0, 0, 0, none, none, [], [], [], _, by omega, by omega, rfl, rfl, B4, hideIt (fun xs hx => by cases hx), o3, b3⟩
  case round =>
    clear B4 o3 b3 zp
    obtain ⟨i, m, cb, cw, Ab, Aw, ps, pw, yss, ys, hi, hi2, HM, rfl, B, HX, O, b⟩ := hrel
    by_cases h1 : i < n
    · by_cases h2 : i < 20
      · obtain ⟨ad, Aj, nj, cj, xs, rfl, hj, ce, rj⟩ := (hx.below b).row i h1
        have L0 := hideIt (show LtB ps wr.heap.size from fun p hp a ha => (B.ls.lt p hp a ha).1)
        have zr := O.lt
        clear hj
        go_upto_region 10 with (go_at_call 17; refine (padded_calls _ _ _ 4092 _ _ rj (by omega)).mono ?_; rintro en w4 ⟨g4, rfl, s4, o4, x4⟩)
        generalize pad xs 4092 = body at o4
        clear rj ce
        have B4 := B.below x4
        have O4 := O.below x4
        have b4 := b.trans (x4.mono b.size)
        have l4 := o4.lt
        have z4 := x4.size
        have hb4 := hideIt o4.len
        clear B O b x4
        go_upto_region 11 with (with_reducible refine wpB_copy rfl (.tmp 38) (.tmp 39) rfl _ _ _ rfl _ _ _ rfl _ _ _ 0 _ _ O4 o4.read 4092 (by decide) (fun _ => rfl) (by omega) ?_; intro w5 O5 k5)
        have r5 := O5.read.take 4092 (by omega)
        rw [lay_take hb4.out] at r5
        have o5 : OB w5 g4 4092 4092 body := OC.same o4 (Sm.of_grown k5 l4 (by simp only [ne_eq, Option.some.injEq]; omega))
        have B5 := B4.other k5 (by omega) (by omega)
        have b5 := b4.grown k5 b4.size (fun g q => by cases q; exact hwp)
        have z5 := Nat.le_trans z4 k5.size
        clear B4 O4 b4 o4 k5 z4 l4 w4
        generalize List.take 0 ys ++ (List.take 4092 body ++ List.drop (0 + 4092) ys) = y5 at O5
        clear ys
        go_upto_region 12 with (go_at_call 18; refine (Seal_ok _ _ _ _ r5 (hg.below b5)).mono ?_; rintro en w6 ⟨g6, c6, rfl, s6, o6, x6⟩)
        replace r5 := r5.below x6
        replace o5 := o5.below x6
        replace O5 := O5.below x6
        replace B5 := B5.below x6
        have b6 := b5.trans (x6.mono b5.size)
        have z6 := o6.lt
        clear x6 b5
        go_upto_region 13 with (go_at_call 18; refine (Seal_ok _ _ _ _ r5 (hg.below b6)).mono ?_; rintro en w7 ⟨g7, c7, rfl, s7, o7, x7⟩)
        replace o5 := o5.below x7
        replace o6 := o6.below x7
        replace O5 := O5.below x7
        replace B5 := B5.below x7
        have b7 := b6.trans (x7.mono b6.size)
        have z7 := o7.lt
        have hs7 : g6 < g7 := by omega
        have hs6 : wr.heap.size ≤ g6 := by omega
        clear x7 b6 r5 s6 s7 z6 z5 w6 w5
        go_upto_region 15 with (go_at_call 19; refine (num_calls _ _).mono ?_; rintro en w9 ⟨rfl, rfl⟩)
        have he : (body ++ Crc.tail4 (Crc.sum body)).length = 4096 := o6.len
        go_upto_region 16 with (with_reducible refine wpB_copy rfl (.tmp 61) (.tmp 62) rfl _ _ _ rfl _ _ _ rfl _ _ _ 0 _ _ O5 o6.read 4096 (by decide) (fun _ => rfl) (by omega) ?_; intro w8 O8 k8)
        have r8 := O8.read.take 4096 (by omega)
        rw [lay_take he] at r8
        have nk : ∀ g, gp < g → some g ≠ some gp := fun g h q => by cases q; omega
        replace o5 : OB w8 g4 4092 4092 body := OC.same o5 (Sm.of_grown k8 o5.lt (by simp only [ne_eq, Option.some.injEq]; omega))
        replace o6 : OB w8 g6 4096 c6 (body ++ Crc.tail4 (Crc.sum body)) := OC.same o6 (Sm.of_grown k8 o6.lt (by simp only [ne_eq, Option.some.injEq]; omega))
        replace o7 : OB w8 g7 4096 c7 (body ++ Crc.tail4 (Crc.sum body)) := OC.same o7 (Sm.of_grown k8 o7.lt (by simp only [ne_eq, Option.some.injEq]; omega))
        have B8 := B5.other k8 (by omega) (by omega)
        have b8 := b7.grown k8 b7.size (fun g q => by cases q; exact hwp)
        have z8 := o7.lt
        clear B5 O5 b7 k8 nk z7 w7
        generalize List.take 0 y5 ++ (List.take 4096 (body ++ Crc.tail4 (Crc.sum body)) ++ List.drop (0 + 4096) y5) = y8 at O8
        clear y5
        go_upto_region 17 with (go_at_call 20; refine (Open_ok _ _ _ _ r8 (hg.below b8)).mono ?_; rintro en w10 ⟨ga, ca, rfl, sa, oa, xa⟩)
        replace o5 := o5.below xa
        replace o6 := o6.below xa
        replace o7 := o7.below xa
        replace O8 := O8.below xa
        replace B8 := B8.below xa
        replace r8 := r8.below xa
        have ba := b8.trans (xa.mono b8.size)
        have za := oa.lt
        have hsa : g7 < ga := by omega
        clear xa b8 sa z8 w8
        go_upto_region 18 with (go_at_call 20; refine (Open_ok _ _ _ _ r8 (hg.below ba)).mono ?_; rintro en w11 ⟨gb, cb', rfl, sb, ob, xb⟩)
        replace o5 := o5.below xb
        replace o6 := o6.below xb
        replace o7 := o7.below xb
        replace oa := oa.below xb
        replace O8 := O8.below xb
        replace B8 := B8.below xb
        have bb := ba.trans (xb.mono ba.size)
        have hsb : ga < gb := by omega
        clear xb ba sb za r8 w10
        go_upto_region 19 with (first
          | (go_at_call 21; refine (SameBytes_calls _ _ _ _ _ _ _ _ _ oa.read o5.read true (by simp)).mono ?_; rintro en w9 ⟨rfl, rfl⟩)
          | (go_at_call 21; refine (SameBytes_calls _ _ _ _ _ _ _ _ _ ob.read o5.read true (by simp)).mono ?_; rintro en w9 ⟨rfl, rfl⟩))
        go_upto_region 21 with (go_at_call 19; refine (num_calls _ _).mono ?_; rintro en w9 ⟨rfl, rfl⟩)
        have hm2 := HM.out
        have L6 := hideIt (LtB.snoc (n := 4096) (c := c6) L0.out hs6)
        have L7 := hideIt (LtB.snoc (n := 4096) (c := c7) L6.out (show g6 + 1 ≤ g7 by omega))
        have La := hideIt (LtB.snoc (n := 4092) (c := ca) L7.out (show g7 + 1 ≤ ga by omega))
        have zb : gp + 1 ≤ w11.heap.size := by have := ob.lt; omega
        have G6 := GB.of (base := gp + 1) o6 (by omega)
        have G7 := GB.of (base := gp + 1) o7 (by omega)
        have Ga := GB.of (base := gp + 1) oa (by omega)
        have Gb := GB.of (base := gp + 1) ob (by omega)
        have HY := hideIt (lens_snoc (lens_snoc (lens_snoc (lens_snoc HX.out (ys := body ++ Crc.tail4 (Crc.sum body)) (by omega)) (ys := body ++ Crc.tail4 (Crc.sum body)) (by omega)) (ys := body) (by have := hb4.out; omega)) (ys := body) (by have := hb4.out; omega))
        clear HX o5 o6 o7 oa ob
        have BY := Bytes_b gk (gp + 1) m cb cw Ab Aw ps pw yss _ _ _ _ w11 B8 G6 (L0.out.ne hs6) (by omega) (by omega) zb
        go_upto_region 22 with (go_at_call 11; refine BY.mono ?_; intro en w12 q; obtain ⟨⟨v6, rfl⟩, Ab6, cb6, Aw6, cw6, pw6, B6, ou6⟩ := q)
        clear BY G6
        replace G7 := ou6.keepGB B8.bk G7
        replace Ga := ou6.keepGB B8.bk Ga
        replace Gb := ou6.keepGB B8.bk Gb
        replace O8 := ou6.keepOB B8.bk O8
        replace zb := Nat.le_trans zb ou6.size
        replace bb := bb.trans (ou6.keepBelow bb.size hgk (by omega))
        clear ou6 B8 w11
        have BY := Bytes_b gk (gp + 1) (m + 1) cb6 cw6 Ab6 Aw6 _ pw6 _ _ _ _ _ w12 B6 G7 (L6.out.ne (by omega)) (by omega) (by omega) zb
        go_upto_region 23 with (go_at_call 11; refine BY.mono ?_; intro en w13 q; obtain ⟨⟨v7, rfl⟩, Ab7, cb7, Aw7, cw7, pw7, B7, ou7⟩ := q)
        clear BY G7
        replace Ga := ou7.keepGB B6.bk Ga
        replace Gb := ou7.keepGB B6.bk Gb
        replace O8 := ou7.keepOB B6.bk O8
        replace zb := Nat.le_trans zb ou7.size
        replace bb := bb.trans (ou7.keepBelow bb.size hgk (by omega))
        clear ou7 B6 w12
        have BY := Bytes_b gk (gp + 1) (m + 2) cb7 cw7 Ab7 Aw7 _ pw7 _ _ _ _ _ w13 B7 Ga (L7.out.ne (by omega)) (by omega) (by omega) zb
        go_upto_region 24 with (go_at_call 11; refine BY.mono ?_; intro en w14 q; obtain ⟨⟨v8, rfl⟩, Ab8, cb8, Aw8, cw8, pw8, B8, ou8⟩ := q)
        clear BY Ga
        replace Gb := ou8.keepGB B7.bk Gb
        replace O8 := ou8.keepOB B7.bk O8
        replace zb := Nat.le_trans zb ou8.size
        replace bb := bb.trans (ou8.keepBelow bb.size hgk (by omega))
        clear ou8 B7 w13
        have BY := Bytes_b gk (gp + 1) (m + 3) cb8 cw8 Ab8 Aw8 _ pw8 _ _ _ _ _ w14 B8 Gb (La.out.ne (by omega)) (by omega) (by omega) zb
        go_wp2_with (go_at_call 11; refine BY.mono ?_; intro en w15 q; obtain ⟨⟨v9, rfl⟩, Ab9, cb9, Aw9, cw9, pw9, B9, ou9⟩ := q)
        clear BY Gb
        replace O8 := ou9.keepOB B8.bk O8
        replace bb := bb.trans (ou9.keepBelow bb.size hgk (by omega))
        clear ou9 B8 zb w14
        go_roundw
        case rel => exact ⟨i + 1, m + 4, _, _, _, _, _, _, _, _, by omega, by omega, hideIt (by omega), by go_num, B9, HY, O8, bb⟩
        case measure => simp [intOf]; omega
      · obtain rfl : i = 20 := by omega
        have hm2 := HM.out
        have lsb := hideIt B.ls
        have FI := Finish_k gk (gp + 1) m cb cw Ab Aw ps pw yss wr B HX.out (by omega) O.lt
        clear B HX
        go_wp2_with (go_at_call 15; refine FI.mono ?_; rintro en w8 ⟨rfl, ou⟩)
        go_ret
        exact ⟨rfl, b.trans (ou.below b.size (fun g q => by
          rcases q with q | q
          · omega
          · have := InPs.base lsb.out q
            omega))⟩
    · obtain rfl : i = n := by omega
      have hm2 := HM.out
      have lsb := hideIt B.ls
      have FI := Finish_k gk (gp + 1) m cb cw Ab Aw ps pw yss wr B HX.out (by omega) O.lt
      clear B HX
      go_wp2_with (go_at_call 15; refine FI.mono ?_; rintro en w8 ⟨rfl, ou⟩)
      go_ret
      exact ⟨rfl, b.trans (ou.below b.size (fun g q => by
        rcases q with q | q
        · omega
        · have := InPs.base lsb.out q
          omega))⟩
end Go.Proofs.YtenalocpmigppaaGreatDoor
