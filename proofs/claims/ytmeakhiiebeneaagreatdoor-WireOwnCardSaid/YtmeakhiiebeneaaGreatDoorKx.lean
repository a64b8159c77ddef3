/- coppicelaw1.WireOwn: the walk. -/
import Derived.Test.YtmeakhiiebeneaaGreatDoorKw
namespace Go.Proofs.YtmeakhiiebeneaaGreatDoor
open Go.RowKit

set_option maxRecDepth 100000 in
set_option maxHeartbeats 8000000 in
theorem WireOwn_walk (A : Option Addr) (n c : Nat) (xs : List UInt8) (x : Nat) (w : World) (hx : RB w A n c xs) (_hb : n ≤ 140737488351232) (hxx : x < 18446744073709551616) :
    Calls Tryz.prog 4 #[.slice A n c, .int .u64 (x : Int)] w fun e w' => e = .returned (.bool true) ∧ Below w.heap.size w w' := by
  have HXX := hideIt hxx
  clear hxx
  by_cases hn : 2000 < n
  · have hn' : (2000 : Int) < n := by omega
    go_enter Tryz.func4, Tryz.ntmps4
    go_wp2_with (go_at_call 21; refine (first_calls _).mono ?_; rintro en w1 ⟨rfl, b1⟩)
    go_ret
    exact ⟨rfl, b1⟩
  have hn' : (n : Int) ≤ 2000 := by omega
  have hn2 : n ≤ 2000 := by omega
  clear hn
  obtain ⟨N, hN⟩ : ∃ N, n / 6 = N := ⟨_, rfl⟩
  have hq : Int.tdiv (n : Int) 6 = (N : Int) := by rw [Int.tdiv_eq_ediv_of_nonneg (by omega)]; omega
  have hN6 : 6 * N ≤ n := by omega
  have HN := hideIt hN
  clear hN
  go_enter Tryz.func4, Tryz.ntmps4
  go_upto_region 2 with (go_at_call 21; refine (first_calls _).mono ?_; rintro en w1 ⟨rfl, b1⟩)
  go_upto_region 4 with fail
  have x3 := below1 w1 bookO
  have B3 := BookB.new w1 (w1.heap.size + 1)
  have z3 : w1.heap.size + 1 ≤ (w1.alloc bookO).heap.size := by simp
  have b2 := b1.trans (x3.mono b1.size)
  have hgk := b1.size
  go_upto_region 5 with (refine wp_book rfl ?_)
  change Code.wp _ _ _ _ (w1.alloc bookO)
  generalize w1.alloc bookO = w2 at *
  generalize w1.heap.size = gk at *
  clear x3 b1 w1
  have r2 := hx.below b2
  go_upto_region 6 with (go_at_call 22; refine (Bytes_calls _ _ _ _ _ r2 (by omega)).mono ?_; rintro en w3 ⟨gl, cl, rfl, sl, ol, x3⟩)
  have B4 := B3.below x3
  have z4 := Nat.le_trans z3 x3.size
  have b3 := b2.trans (x3.mono b2.size)
  have hgl : gk < gl := by omega
  clear r2 B3 z3 b2 x3 sl w2
  go_upto_region 7 with (go_at_call 23; refine (NewReader_x _ _ _ _ _ ol.read (by omega)).mono ?_; rintro en w4 ⟨gr, gb, cb0, rfl, sb, dr, x4⟩)
  have hlb : gl < gb := by have := ol.lt; omega
  have hbr : gb < gr := dr.2.2.1
  replace ol := ol.below x4
  replace B4 := B4.below x4
  replace z4 := Nat.le_trans z4 x4.size
  replace b3 := b3.trans (x4.mono b3.size)
  have hwk : w.heap.size ≤ gr := by omega
  clear x4 sb w3
  go_upto_region 10 with fail
  go_loopw [9] (fun ii wr => ∃ (i m cb cw : Nat) (Ab Aw : Option Addr) (ps pw : List Slot) (yss : List (List UInt8)), i ≤ 6 ∧ Hid (m = 4 * i) ∧ ii = .int .i64 (i : Int) ∧ BookB wr gk (gk + 1) m Ab cb Aw cw ps pw yss ∧ Hid (∀ ys ∈ yss, ys.length ≤ 900000) ∧ OB wr gl n cl xs ∧ RdX wr gr gb n cb0 xs (i * N) 0 ∧ Hid (Off ps gr ∧ Off ps gb ∧ Off ps gl) ∧ gk + 1 ≤ wr.heap.size ∧ Below w.heap.size w wr)
    (fun ii _ => 6 - (intOf ii).toNat)
  case atStart => exact ⟨0, 0, 0, 0, none, none, [], [], [], by omega, rfl, rfl, B4, hideIt (fun xs hx => by cases hx), ol, by rw [Nat.zero_mul]; exact dr, hideIt ⟨fun p hp => (by cases hp), fun p hp => (by cases hp), fun p hp => (by cases hp)⟩, z4, b3⟩
  case round =>
    clear B4 ol dr z4 b3
    obtain ⟨i, m, cb, cw, Ab, Aw, ps, pw, yss, hi, HM, rfl, B, HX, ol, dr, HO, zr, b⟩ := hrel
    by_cases h1 : i < 6
    · have i1 : (i : Int) < 6 := by omega
      obtain ⟨Q, hQ⟩ : ∃ Q, i * N = Q := ⟨_, rfl⟩
      have hQN : Q + N ≤ n := by
        have := Nat.mul_le_mul_right N (show i + 1 ≤ 6 by omega)
        rw [Nat.add_mul, hQ] at this
        omega
      have hQi : (i : Int) * (N : Int) = (Q : Int) := by rw [← hQ]; exact (Int.natCast_mul i N).symm
      have HQ1 : Hid ((i + 1) * N = Q + N) := hideIt (by rw [Nat.add_mul, hQ, Nat.one_mul])
      rw [hQ] at dr
      clear hQ
      obtain ⟨u1, hu1⟩ : ∃ u, wideS (i : Int) = u := ⟨_, rfl⟩
      obtain ⟨u2, hu2⟩ : ∃ u, wideS ((i : Int) + 1) = u := ⟨_, rfl⟩
      have HU1 := hideIt (wide_five (i : Int))
      have HU2 := hideIt (wide_five ((i : Int) + 1))
      rw [hu1] at HU1
      rw [hu2] at HU2
      have W1 := fun w => wide_calls (i : Int) w
      have W2 := fun w => wide_calls ((i : Int) + 1) w
      rw [hu1] at W1
      rw [hu2] at W2
      clear hu1 hu2
      have PL1 := hideIt (putS_len x u1 HU1.out)
      have PL2 := hideIt (putS_len x u2 HU2.out)
      have lx : xs.length = n := ol.len
      have LX := hideIt lx
      clear lx
      have grw : gr < wr.heap.size := dr.1.lt
      have zw := hideIt (show ∀ g, wr.heap.size ≤ g → Off ps g from fun g hg => Off.new B.ls hg)
      go_upto_region 13 with (first
        | (go_at_call 24; refine (put_calls _ _ _ xs x u1 _ ol.read (by omega) HXX.out HU1.out).mono ?_; rintro en w3 ⟨g1, m1, c1, rfl, s1, o1, x1⟩)
        | (go_at_call 25; refine (W1 _).mono ?_; rintro en wx ⟨rfl, rfl⟩))
      obtain ⟨P1, hP1⟩ : ∃ P, xs ++ putS x u1 = P := ⟨_, rfl⟩
      rw [hP1] at o1
      have l1 : m1 ≤ 2010 := by have h1 := o1.len; rw [← hP1, List.length_append, LX.out] at h1; have := PL1.out; omega
      have O1 := hideIt (zw.out g1 s1)
      have h01 : gr < g1 := by omega
      replace ol := ol.below x1
      replace dr := dr.below x1
      replace B := B.below x1
      have zr1 := Nat.le_trans zr x1.size
      have b1 := b.trans (x1.mono b.size)
      have s1z := x1.size
      have t1 := o1.lt
      clear x1 b zr
      go_upto_region 14 with (first
        | (go_at_call 24; refine (put_calls _ _ _ P1 x u2 _ o1.read (by omega) HXX.out HU2.out).mono ?_; rintro en w4 ⟨g2, m2, c2, rfl, s2, o2, x2⟩)
        | (go_at_call 25; refine (W2 _).mono ?_; rintro en wx ⟨rfl, rfl⟩))
      have l2 : m2 ≤ 2020 := by have h1 := o2.len; rw [List.length_append, o1.len] at h1; have := PL2.out; omega
      have l12 : m1 ≤ m2 := by have h1 := o2.len; rw [List.length_append, o1.len] at h1; omega
      have O2 := hideIt (zw.out g2 (by omega))
      have h12 : g1 < g2 := by omega
      replace o1 := o1.below x2
      replace ol := ol.below x2
      replace dr := dr.below x2
      replace B := B.below x2
      have zr2 := Nat.le_trans zr1 x2.size
      have b2 := b1.trans (x2.mono b1.size)
      have s2z := x2.size
      have t2 := o2.lt
      clear x2 b1 zr1 t1 s1
      go_upto_region 15 with (first
        | (go_at_call 24; refine (put_calls _ _ _ xs x u1 _ ol.read (by omega) HXX.out HU1.out).mono ?_; rintro en w5 ⟨g3, m3, c3, rfl, s3, o3, x3⟩)
        | (go_at_call 25; refine (W1 _).mono ?_; rintro en wx ⟨rfl, rfl⟩))
      rw [hP1] at o3
      obtain rfl : m1 = m3 := o1.len.symm.trans o3.len
      have O3 := hideIt (zw.out g3 (by omega))
      have h23 : g2 < g3 := by omega
      replace o1 := o1.below x3
      replace o2 := o2.below x3
      replace ol := ol.below x3
      replace dr := dr.below x3
      replace B := B.below x3
      have zr3 := Nat.le_trans zr2 x3.size
      have b3 := b2.trans (x3.mono b2.size)
      have t3 := o3.lt
      clear x3 b2 zr2 t2 s2 s3 w3 w4 hP1 s1z s2z
      have lt12 : decide ((m2 : Int) < (m1 : Int)) = false := decide_eq_false (by omega)
      have lt12n : decide (m2 < m1) = false := decide_eq_false (by omega)
      go_upto_region 17 with fail
      clear lt12 lt12n
      have kc2 := OC.le o2
      have j1 : (m1 : Int) ≤ (c2 : Int) := by omega
      have r2 := o2.read.take m1 l12
      rw [show (P1 ++ putS x u2).take m1 = P1 by rw [← o1.len]; simp] at r2
      go_upto_region 20 with (first
        | (go_at_call 12; (with_reducible refine (SameBytes_calls _ _ _ _ _ _ _ _ _ r2 o1.read true (by simp)).mono ?_); rintro en w9 ⟨rfl, rfl⟩)
        | (go_at_call 12; (with_reducible refine (SameBytes_calls _ _ _ _ _ _ _ _ _ o1.read o3.read true (by simp)).mono ?_); rintro en w9 ⟨rfl, rfl⟩))
      have hm2 := HM.out
      have Y1 : P1.length ≤ 900000 := by have := o1.len; omega
      have Y2 : (P1 ++ putS x u2).length ≤ 900000 := by have := o2.len; omega
      have HY := hideIt (lens_snocW (lens_snocW (lens_snocW HX.out Y1) Y2) Y1)
      have G1 := GB.of (base := gk + 1) o1 (by omega)
      have G2 := GB.of (base := gk + 1) o2 (by omega)
      have G3 := GB.of (base := gk + 1) o3 (by omega)
      have E1 := hideIt O1.out.ne
      have E2 := hideIt ((O2.out.one (b := g1) (n := m1) (c := c1) (by omega)).ne)
      have E3 := hideIt (((O3.out.one (b := g1) (n := m1) (c := c1) (by omega)).one (b := g2) (n := m2) (c := c2) (by omega)).ne)
      clear r2 o1 o2 o3 Y1 Y2 kc2 j1 HX
      have BY := Bytes_b gk (gk + 1) m cb cw Ab Aw ps pw yss _ _ _ _ w5 B G1 E1.out (by omega) (by omega) zr3
      go_upto_region 21 with (go_at_call 19; refine BY.mono ?_; intro en w6 q; obtain ⟨⟨v6, rfl⟩, Ab6, cb6, Aw6, cw6, pw6, B6, ou6⟩ := q)
      clear BY G1 E1
      replace G2 := ou6.keepGB B.bk G2
      replace G3 := ou6.keepGB B.bk G3
      replace ol := ou6.keepOB B.bk ol
      replace dr : RdX w6 gr gb n cb0 xs Q 0 := ⟨ou6.keepOC B.bk dr.1 (by decide) (by decide), ou6.keepOB B.bk dr.2.1, dr.2.2⟩
      have zr6 := Nat.le_trans zr3 ou6.size
      have b6 := b3.trans (ou6.keepBelow b3.size hgk (by omega))
      clear ou6 B zr3 b3 w5 t3
      have BY := Bytes_b gk (gk + 1) (m + 1) cb6 cw6 Ab6 Aw6 _ pw6 _ _ _ _ _ w6 B6 G2 E2.out (by omega) (by omega) zr6
      go_upto_region 22 with (go_at_call 19; refine BY.mono ?_; intro en w7 q; obtain ⟨⟨v7, rfl⟩, Ab7, cb7, Aw7, cw7, pw7, B7, ou7⟩ := q)
      clear BY G2 E2
      replace G3 := ou7.keepGB B6.bk G3
      replace ol := ou7.keepOB B6.bk ol
      replace dr : RdX w7 gr gb n cb0 xs Q 0 := ⟨ou7.keepOC B6.bk dr.1 (by decide) (by decide), ou7.keepOB B6.bk dr.2.1, dr.2.2⟩
      have zr7 := Nat.le_trans zr6 ou7.size
      have b7 := b6.trans (ou7.keepBelow b6.size hgk (by omega))
      clear ou7 B6 zr6 b6 w6
      have BY := Bytes_b gk (gk + 1) (m + 2) cb7 cw7 Ab7 Aw7 _ pw7 _ _ _ _ _ w7 B7 G3 E3.out (by omega) (by omega) zr7
      go_upto_region 23 with (go_at_call 19; refine BY.mono ?_; intro en w8 q; obtain ⟨⟨v8, rfl⟩, Ab8, cb8, Aw8, cw8, pw8, B8, ou8⟩ := q)
      clear BY G3 E3
      replace ol := ou8.keepOB B7.bk ol
      replace dr : RdX w8 gr gb n cb0 xs Q 0 := ⟨ou8.keepOC B7.bk dr.1 (by decide) (by decide), ou8.keepOB B7.bk dr.2.1, dr.2.2⟩
      have zr8 := Nat.le_trans zr7 ou8.size
      have b8 := b7.trans (ou8.keepBelow b7.size hgk (by omega))
      clear ou8 B7 zr7 b7 w7
      have wn : IntKind.i64.wrap (N : Int) = (N : Int) := by rw [IntKind.wrap_i64]; omega
      go_upto_region 24 with fail
      have BX := Bytes_x gr gb n cb0 xs Q N w8 dr hQN (by omega)
      have grk : gr < w8.heap.size := dr.1.lt
      have O4 := hideIt (show ∀ g, w8.heap.size ≤ g → Off (ps ++ [(some ⟨g1, 0, none⟩, m1, c1)] ++ [(some ⟨g2, 0, none⟩, m2, c2)] ++ [(some ⟨g3, 0, none⟩, m1, c3)]) g from fun g hg => Off.new B8.ls hg)
      go_upto_region 25 with (go_at_call 26; refine BX.mono ?_; rintro en w9 ⟨g4, rfl, s4, o4, d4, k4⟩)
      have B9 := B8.odd k4 dr.1 (by decide) (by decide) (by decide)
      have h34 : gr < g4 := by omega
      have O5 := hideIt (O4.out g4 s4)
      replace ol : OB w9 gl n cl xs := ol.same (Sm.of_grown k4 ol.lt (by simp only [ne_eq, Option.some.injEq]; omega))
      have zr9 := Nat.le_trans zr8 k4.size
      have b9 := b8.grown k4 b8.size (fun g e => by cases e; exact hwk)
      clear BX B8 dr zr8 b8 k4 s4 O4 grk w8
      have r9 := hx.below b9
      have wq : IntKind.i64.wrap (Q : Int) = (Q : Int) := by rw [IntKind.wrap_i64]; omega
      have wqn : IntKind.i64.wrap ((Q : Int) + (N : Int)) = (Q : Int) + (N : Int) := by rw [IntKind.wrap_i64]; omega
      go_upto_region 28 with (first
        | (go_at_call 12; refine (SameBytes_calls _ _ _ _ _ _ _ _ _ o4.read rA true (by simp)).mono ?_; rintro en wz ⟨rfl, rfl⟩)
        | (with_reducible refine wpS_midW rfl (.tmp 90) (.tmp 93) (.tmp 98) rfl _ _ _ _ rfl r9 _ _ Q (Q + N) N rfl rfl (by go_num) (by go_num) (by omega) hQN (by omega) ?_; intro AA cA rA))
      have Y4 : ((xs.drop Q).take N).length ≤ 900000 := by have := o4.len; omega
      have HY4 := hideIt (lens_snocW HY.out Y4)
      have G4 := GB.of (base := gk + 1) o4 (by omega)
      have E4 := hideIt O5.out.ne
      have BY := Bytes_b gk (gk + 1) (m + 3) cb8 cw8 Ab8 Aw8 _ pw8 _ _ _ _ _ w9 B9 G4 E4.out (by omega) (by omega) zr9
      have HO4 : Hid (Off (ps ++ [(some ⟨g1, 0, none⟩, m1, c1)] ++ [(some ⟨g2, 0, none⟩, m2, c2)] ++ [(some ⟨g3, 0, none⟩, m1, c3)] ++ [(some ⟨g4, 0, none⟩, N, N)]) gr ∧ Off (ps ++ [(some ⟨g1, 0, none⟩, m1, c1)] ++ [(some ⟨g2, 0, none⟩, m2, c2)] ++ [(some ⟨g3, 0, none⟩, m1, c3)] ++ [(some ⟨g4, 0, none⟩, N, N)]) gb ∧ Off (ps ++ [(some ⟨g1, 0, none⟩, m1, c1)] ++ [(some ⟨g2, 0, none⟩, m2, c2)] ++ [(some ⟨g3, 0, none⟩, m1, c3)] ++ [(some ⟨g4, 0, none⟩, N, N)]) gl) :=
        hideIt ⟨(((HO.out.1.one (by omega)).one (by omega)).one (by omega)).one (by omega), (((HO.out.2.1.one (by omega)).one (by omega)).one (by omega)).one (by omega), (((HO.out.2.2.one (by omega)).one (by omega)).one (by omega)).one (by omega)⟩
      clear r9 o4 Y4 HY wq wqn wn HO
      go_wp2_with (go_at_call 19; refine BY.mono ?_; intro en wA q; obtain ⟨⟨vA, rfl⟩, AbA, cbA, AwA, cwA, pwA, BA, ouA⟩ := q)
      clear BY G4 E4
      replace ol := ouA.keepOB B9.bk ol
      replace d4 : RdX wA gr gb n cb0 xs (Q + N) 0 := ⟨ouA.keepOC B9.bk d4.1 (by decide) (by decide), ouA.keepOB B9.bk d4.2.1, d4.2.2⟩
      have zrA := Nat.le_trans zr9 ouA.size
      have bA := b9.trans (ouA.keepBelow b9.size hgk (by omega))
      rw [← HQ1.out] at d4
      clear ouA B9 zr9 b9 rA w9
      go_roundw
      case rel => exact ⟨i + 1, m + 4, _, _, _, _, _, _, _, by omega, hideIt (by omega), by go_num, BA, HY4, ol, d4, HO4, zrA, bA⟩
      case measure => simp [intOf]; omega
    · obtain rfl : i = 6 := by omega
      have hm2 := HM.out
      have grk : gr < wr.heap.size := dr.1.lt
      have GL := GB.of (base := gk + 1) ol (by omega)
      have lxs : xs.length ≤ 900000 := by have := ol.len; omega
      have HXL := hideIt (lens_snocW HX.out lxs)
      have HO2 : Hid (Off (ps ++ [(some ⟨gl, 0, none⟩, n, cl)]) gr ∧ Off (ps ++ [(some ⟨gl, 0, none⟩, n, cl)]) gb) := hideIt ⟨HO.out.1.one (by omega), HO.out.2.1.one (by omega)⟩
      have BY := Bytes_b gk (gk + 1) m cb cw Ab Aw ps pw yss _ _ _ _ wr B GL HO.out.2.2.ne (by omega) (by omega) zr
      clear lxs HX
      go_upto_region 30 with (go_at_call 19; refine BY.mono ?_; intro en w6 q; obtain ⟨⟨v6, rfl⟩, Ab6, cb6, Aw6, cw6, pw6, B6, ou6⟩ := q)
      replace dr : RdX w6 gr gb n cb0 xs (6 * N) 0 := ⟨ou6.keepOC B.bk dr.1 (by decide) (by decide), ou6.keepOB B.bk dr.2.1, dr.2.2⟩
      have zr6 := Nat.le_trans zr ou6.size
      have b6 := b.trans (ou6.keepBelow b.size hgk (by omega))
      clear ou6 B zr b BY GL ol grk wr
      have lsb := hideIt B6.ls
      have FI := Finish_k gk (gk + 1) (m + 1) cb6 cw6 Ab6 Aw6 _ pw6 _ w6 B6 HXL.out (by omega) zr6
      clear B6 HXL
      go_upto_region 31 with (go_at_call 20; refine FI.mono ?_; rintro en w8 ⟨rfl, ou⟩)
      have d8 : RdX w8 gr gb n cb0 xs (6 * N) 0 := dr.sm (ou.sm dr.1.lt (by
        rintro (q | ⟨p, hp, a, ha, q⟩)
        · omega
        · exact HO2.out.1 p hp a ha q)) (ou.sm dr.2.1.lt (by
        rintro (q | ⟨p, hp, a, ha, q⟩)
        · omega
        · exact HO2.out.2 p hp a ha q))
      have b8 := b6.trans (ou.below b6.size (fun g q => by
        rcases q with q | q
        · omega
        · have := InPs.base lsb.out q
          omega))
      have z8 := ou.size
      clear FI ou dr b6 lsb HO2 HO
      have hleft : leftS xs (6 * N) 0 = n - 6 * N := by unfold leftS; rw [if_pos rfl, d8.2.1.len]
      have LE := Left_calls gr xs (6 * N) 0 w8 d8.rd
      rw [hleft] at LE
      obtain ⟨R, hR⟩ : ∃ R, n - 6 * N = R := ⟨_, rfl⟩
      rw [hR] at LE
      have d9 : ∀ j, RdX (w8.drewN j) gr gb n cb0 xs (6 * N) 0 := fun j => d8.drewN j
      have BX := fun j => Bytes_x gr gb n cb0 xs (6 * N) R (w8.drewN j) (d9 j) (by omega) (by omega)
      clear hleft d8
      go_upto_region 32 with (first
        | (go_at_call 26; refine (BX jj).mono ?_; rintro en w9 ⟨g4, rfl, s4, o4, d4, k4⟩)
        | (go_at_call 27; refine LE.mono ?_; rintro en wz ⟨rfl, jj, rfl⟩))
      have b9 := (below_drewN b8 jj).grown k4 b8.size (fun g e => by cases e; exact hwk)
      have r9 := hx.below b9
      clear LE BX d9 d4 k4 s4 b8
      rw [show (xs.drop (6 * N)).take R = xs.drop (6 * N) by rw [List.take_of_length_le]; rw [List.length_drop, hx.len]; omega] at o4
      have hq6 : (N : Int) * 6 = ((6 * N : Nat) : Int) := by omega
      have wn : IntKind.i64.wrap (N : Int) = (N : Int) := by rw [IntKind.wrap_i64]; omega
      have wn6 : IntKind.i64.wrap ((6 * N : Nat) : Int) = ((6 * N : Nat) : Int) := by rw [IntKind.wrap_i64]; omega
      generalize hM : 6 * N = M at *
      go_upto_region 33 with (first
        | (go_at_call 12; refine (SameBytes_calls _ _ _ _ _ _ _ _ _ o4.read rA true (by simp)).mono ?_; rintro en wz ⟨rfl, rfl⟩)
        | (with_reducible refine wpS_fromW rfl (.tmp 116) (.tmp 120) rfl _ _ _ _ rfl r9 _ M R rfl (by go_num) (by omega) hR ?_; intro AA cA rA))
      clear r9 o4
      go_wp2_with (go_at_call 21; refine (first_calls _).mono ?_; rintro en w10 ⟨rfl, x10⟩)
      go_ret
      exact ⟨rfl, b9.trans (x10.mono b9.size)⟩
end Go.Proofs.YtmeakhiiebeneaaGreatDoor
