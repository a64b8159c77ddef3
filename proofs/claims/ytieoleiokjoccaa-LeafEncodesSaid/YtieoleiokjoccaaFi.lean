/- leaf.Decode. -/
import Derived.Test.YtieoleiokjoccaaFh
import Derived.Test.YtieoleiokjoccaaWoE
namespace Go.Proofs.Ytieoleiokjoccaa
open Go.RowKit

theorem Rd.under_gcT {w w' : World} {r at_ : Nat} {B : List UInt8} {er : Int} {base e sz n c : Nat} {A : Option Addr} {cs : List Value} (q : Rd w r B at_ er) (h : GC w base e sz A n c cs) (hr : r < base) (gx : w.grownBy w' (A.map (·.block))) : Rd w' r B at_ er := by
  rcases h.oc with ⟨rfl, rfl, rfl, rfl⟩ | ⟨g, rfl, hb, o⟩
  · exact q.keep fun k hk => Sm.of_grown gx hk (by simp)
  · exact q.above gx (by show r < g; omega)
theorem LR.under_gc {w w' : World} {gl r n0 c0 : Nat} {A0 : Option Addr} {base e sz n c : Nat} {A : Option Addr} {cs : List Value} (q : LR w gl r A0 n0 c0) (h : GC w base e sz A n c cs) (hr : gl < base) (gx : w.grownBy w' (A.map (·.block))) : LR w' gl r A0 n0 c0 := by
  rcases h.oc with ⟨rfl, rfl, rfl, rfl⟩ | ⟨g, rfl, hb, o⟩
  · exact q.same (Sm.of_grown gx q.lt (by simp)) gx.size
  · exact q.above gx (by show gl < g; omega)
theorem OT.grown_lt {w w' : World} {base n c r : Nat} {A : Option Addr} {zs : List Cel} (h : OT w base A n c zs) (gx : w.grownBy w' (some r)) (hr : r < base) : OT w' base A n c zs :=
  ⟨GC.grown_lt h.row gx hr, fun z hz => ⟨GC.grown_lt (h.each z hz).1 gx hr, GC.grown_lt (h.each z hz).2 gx hr⟩, h.inc⟩
theorem OT.at_world {w w' : World} {base n c : Nat} {A : Option Addr} {zs : List Cel} (h : OT w base A n c zs) (e : w' = w) : OT w' base A n c zs := e ▸ h
/-- What Decode answers. -/
def DecOut (B : List UInt8) (w : World) (en : Ending) (w' : World) : Prop :=
  ∃ (A : Option Addr) (n c : Nat) (zs : List Cel), en = .returned (.tuple #[.slice A n c, .int .i64 (if decT B = none then 40 else 0)]) ∧ OT w' w.heap.size A n c zs ∧ decT B = (if decT B = none then none else some (its zs)) ∧ (decT B = none → n = 0) ∧ Below w.heap.size w w'
theorem DecOut.no {B : List UInt8} {w : World} {w' : World} (h : decT B = none) (b : Below w.heap.size w w') : DecOut B w (.returned (.tuple #[.slice none 0 0, .int .i64 40])) w' :=
  ⟨none, 0, 0, [], by rw [if_pos h], OT.nil _ _, by rw [if_pos h]; exact h, fun _ => rfl, b⟩
theorem DecOut.yes {B : List UInt8} {w : World} {w' : World} {A : Option Addr} {n c : Nat} {zs : List Cel} (h : decT B = some (its zs)) (o : OT w' w.heap.size A n c zs) (b : Below w.heap.size w w') : DecOut B w (.returned (.tuple #[.slice A n c, .int .i64 0])) w' :=
  ⟨A, n, c, zs, by rw [if_neg (by rw [h]; simp)], o, by rw [if_neg (by rw [h]; simp)]; exact h, (fun q => by rw [h] at q; cases q), b⟩

set_option maxRecDepth 100000 in
set_option maxHeartbeats 8000000 in
theorem Decode_calls (A : Option Addr) (n c : Nat) (B : List UInt8) (w : World) (h : RB w A n c B) :
    Calls Try.prog 25 #[.slice A n c] w (DecOut B w) := by
  have hlen := h.len
  by_cases hn : n = 4092
  · subst hn
    obtain ⟨x1, a1, e1, E1⟩ : ∃ x a e, bytesS B 0 0 1 = (x, a, e) := ⟨_, _, _, rfl⟩
    have G1 := fun r W q => Bytes_any r B 0 0 1 W q (by omega)
    rw [E1] at G1
    obtain ⟨k, a2, e2, E2⟩ : ∃ x a e, numS B a1 e1 2 = (x, a, e) := ⟨_, _, _, rfl⟩
    have kl : k < 65536 := by have := numS_lt B a1 e1 2; rw [E2] at this; exact this
    have G2 := fun r W q => Get16_any r B a1 e1 W q
    rw [E2] at G2
    have hcnt : cntT B = (k, a2, e2) := by unfold cntT; rw [E1]; exact E2
    obtain ⟨xv, av, ev, EV⟩ : ∃ x a e, vS B a2 e2 = (x, a, e) := ⟨_, _, _, rfl⟩
    have G3 := fun r W q => V_any r B a2 e2 W q
    rw [EV] at G3
    obtain ⟨m4, hm4⟩ : ∃ m, min xv 4092 = m := ⟨_, rfl⟩
    have m4l : m4 ≤ 4092 := by omega
    obtain ⟨pre, a4, e4, E4⟩ : ∃ x a e, bytesS B av ev (m4 : Int) = (x, a, e) := ⟨_, _, _, rfl⟩
    have G4 := fun r W q => Bytes_any r B av ev (m4 : Int) W q (by omega)
    rw [E4] at G4
    have prel : pre.length ≤ 4092 := by
      have : (bytesS B av ev (m4 : Int)).1.length ≤ 4092 := by
        unfold bytesS
        split
        · rw [List.length_take]; omega
        · exact Nat.zero_le _
      rw [E4] at this
      exact this
    have hpfx : pfxT B = (pre, a4, e4) := by unfold pfxT strT; rw [hcnt]; simp only; rw [EV]; simp only; rw [hm4]; exact E4
    obtain ⟨sk, a5, e5, E5⟩ : ∃ x a e, bytesS B a4 e4 ((2 * k : Nat) : Int) = (x, a, e) := ⟨_, _, _, rfl⟩
    have G5 := fun r W q => Bytes_any r B a4 e4 ((2 * k : Nat) : Int) W q (by omega)
    rw [E5] at G5
    have e2k : ((2 * k : Nat) : Int) = 2 * (k : Int) := by omega
    rw [e2k] at G5
    have hskip : skipT B = (sk, a5, e5) := by unfold skipT; rw [hpfx, hcnt]; exact E5
    have hread : readT B = itemsT B pre k a5 e5 := by unfold readT; rw [hpfx, hcnt, hskip]
    have hdec : decT B = chkT B (itemsT B pre k a5 e5) := by
      unfold decT; rw [if_pos hlen, hread]
    obtain ⟨RS, hRS⟩ : ∃ RS, itemsT B pre k a5 e5 = RS := ⟨_, rfl⟩
    rw [hRS] at hdec
    have HRS := hideIt hRS
    have HD := hideIt hdec
    have hmin := min_u64T xv m4 hm4
    have wm : IntKind.i64.wrap (m4 : Int) = (m4 : Int) := IntWalk.i64_in _ (by omega)
    simp only at G1 G2 G3 G4 G5
    clear hcnt hpfx hskip hread hdec hRS E1 E2 EV E4 E5 hm4 hlen e2k
    go_enter Try.func25, Try.ntmps25
    go_upto_region 4 with (go_at_call 46; refine (NewReader_calls _ _ _ _ _ h (by omega)).mono ?_; rintro en w1 ⟨r, rfl, s1, d1, b1⟩)
    have lr := d1.lt
    have bx := below1 w1 (.cells #[.pointer (some ⟨r, 0, none⟩), .slice none 0 0] 73)
    have d2 := d1.below bx
    have b2 := blw_step b1 bx
    have ol2 : OC (w1.alloc (.cells #[.pointer (some ⟨r, 0, none⟩), .slice none 0 0] 73)) 73 1 w1.heap.size 2 2 [.pointer (some ⟨r, 0, none⟩), .slice none 0 0] := OC.mk rfl _ (heap_alloc_new w1 _) (Nat.le_refl _) (by rw [maxLen_is]; omega) rfl rfl
    have s2 := b1.size
    generalize hw2 : w1.alloc (.cells #[.pointer (some ⟨r, 0, none⟩), .slice none 0 0] 73) = w2 at d2 b2 ol2 ⊢
    generalize w1.heap.size = gl at *
    clear hw2 bx d1 b1 w1
    have c2 := ol2.cell 0 _ rfl
    have nl : some gl ≠ some r := by simp only [ne_eq, Option.some.injEq]; omega
    go_upto_region 5 with (go_at_call 47; refine (G1 _ _ d2).mono ?_; rintro en w3 ⟨g3, L3, rfl, s3, o3, d3, k3⟩)
    have ol3 := ol2.same (Sm.of_grown k3 ol2.lt nl)
    have b3 := blw_own b2 k3 b2.size s1
    have c3 := ol3.cell 0 _ rfl
    clear d2 b2 ol2 c2 s3 o3 k3 G1
    go_upto_region 6 with (go_at_call 48; refine (G2 _ _ d3).mono ?_; rintro en w4 ⟨rfl, d4, k4⟩)
    have ol4 := ol3.same (Sm.of_grown k4 ol3.lt nl)
    have b4 := blw_own b3 k4 b3.size s1
    clear d3 b3 ol3 c3 k4 G2
    have d4d := d4.below (drew1 w4)
    have ol4d := ol4.below (drew1 w4)
    have b4d : Below w.heap.size w w4.drew := b4.drew
    have c4 := ol4d.cell 0 _ rfl
    clear d4 ol4 b4
    go_region_held3 (fun w' => w'.cell? ⟨gl, 0, none⟩ = some (.pointer (some ⟨r, 0, none⟩))) (first | exact c4 | exact c5 | exact c6 | exact c7 | go_keep)
      (first
        | (go_at_call 47; (with_reducible refine (G4 _ _ d5).mono ?_); rintro en w6 ⟨gp, L, rfl, s6, o6, d6, k6⟩; have ol6 := ol5.same (Sm.of_grown k6 ol5.lt nl); have c6 := ol6.cell 0 _ rfl; have c61 := ol6.cell 1 _ rfl; have f61 := ol6.free 1; have ol7 := ol6.set 1 (.slice (some ⟨gp, 0, none⟩) L L); simp only [List.set_cons_succ, List.set_cons_zero] at ol7; have c7 := ol7.cell 0 _ rfl)
        | (go_at_call 49; (with_reducible refine (G3 _ _ d4d).mono ?_); rintro en w5 ⟨rfl, d5, k5⟩; have ol5 := ol4d.same (Sm.of_grown k5 ol4d.lt nl); have c5 := ol5.cell 0 _ rfl))
    have gs := grownBy_set w6 gl 1 (.slice (some ⟨gp, 0, none⟩) L L)
    have d7 := d6.above gs lr
    have b5 := blw_own b4d k5 b4d.size s1
    have b6 := blw_own b5 k6 b5.size s1
    have b7 := blw_own b6 gs b6.size s2
    have lr6 : gl < w5.heap.size := ol5.lt
    have P6 : GB w6 (gl + 1) (some ⟨gp, 0, none⟩) L L pre := GB.of o6 (by omega)
    have P7 := gb_other P6 gs ol6
    have l7 : LR _ gl r (some ⟨gp, 0, none⟩) L L := ⟨ol7.cell 0 _ rfl, ol7.cell 1 _ rfl, ol7.lt, lr⟩
    clear c4 c5 c6 c61 f61 ol6 ol7 c7 k5 k6 gs b5 b6 d5 d6 ol5 ol4d d4d b4d s6 o6 P6 G3 G4 hmin wm
    generalize w6.setCell ⟨gl, 1, none⟩ (.slice (some ⟨gp, 0, none⟩) L L) = w7 at *
    have c7 := l7.c0
    clear w6
    go_upto_region 8 with (go_at_call 47; refine (G5 _ _ d7).mono ?_; rintro en w8 ⟨g8, L8, rfl, s8, o8, d8, k8⟩)
    have l8 := l7.grown k8
    have P8 : GB w8 (gl + 1) (some ⟨gp, 0, none⟩) L L pre := GC.grown_lt P7 k8 (by omega)
    have b8 := blw_own b7 k8 b7.size s1
    clear c7 d7 l7 P7 b7 k8 s8 o8 G5
    have HR0 : Hid ((itemsT B pre k a5 e5).map ([] ++ ·) = RS) := hideIt (by rw [HRS.out]; cases RS <;> rfl)
    go_wp2
    go_loopw [6, 52] (fun ll ii wr => ∃ (i j a c2 : Nat) (e : Int) (A2 : Option Addr) (zs : List Cel), Hid (i + j = k) ∧ i ≤ k ∧ ii = .int .i64 (i : Int) ∧ ll = .slice A2 i c2 ∧ OT wr (gl + 1) A2 i c2 zs ∧ Hid ((itemsT B pre j a e).map (its zs ++ ·) = RS) ∧ Rd wr r B a e ∧ LR wr gl r (some ⟨gp, 0, none⟩) L L ∧ GB wr (gl + 1) (some ⟨gp, 0, none⟩) L L pre ∧ Below w.heap.size w wr)
      (fun _ ii _ => k - (intOf ii).toNat)
    case atStart => exact ⟨0, k, a5, 0, e5, none, [], hideIt (by omega), by omega, rfl, rfl, OT.nil _ _, HR0, d8, l8, P8, b8⟩
    case round =>
      clear HR0 d8 l8 P8 b8 HRS
      obtain ⟨i, j, a, c2, e, A2, zs, HIJ, hi, rfl, rfl, ot, HR, d, l, P, b⟩ := hrel
      by_cases hlt : i < k
      · obtain ⟨j', rfl⟩ : ∃ j', j = j' + 1 := ⟨j - 1, by have := HIJ.out; omega⟩
        have IT := item_calls gl r _ _ _ B pre a e wr d l (GC.lower P (by omega)) prel
        have HI : Hid (((if (itemT B pre a e).2.2 = 0 then (itemsT B pre j' (itemT B pre a e).2.1 (itemT B pre a e).2.2).map ((itemT B pre a e).1 :: ·) else none)).map (its zs ++ ·) = RS) := hideIt HR.out
        obtain ⟨X, hX⟩ : ∃ X, itemT B pre a e = X := ⟨_, rfl⟩
        obtain ⟨x, a6, e6⟩ := X
        rw [hX] at IT HI
        simp only at IT HI
        have i1 : (i : Int) < (k : Int) := by omega
        have HLO := hideIt ot.lt
        have lw := l.lt
        clear HR hX
        go_upto_region 12 with (first
          | (with_reducible refine wpT_app rfl (.tmp 54) (.tmp 57) rfl (gl + 1) _ _ _ _ rfl ot2.row _ ⟨(A3, n3, c3), (A4, n4, c4), x⟩ rfl R2 (by omega) z2 ?_; intro g4 c4' w4 q4 o4 k4)
          | (go_at_call 50; refine IT.mono ?_; intro en w1 q; obtain ⟨⟨A3, n3, c3⟩, ⟨A4, n4, c4⟩, rfl, op, oq, hpq, d1, k1⟩ := q; simp only [sv] at *; have ot1 := ot.grown_lt k1 (show r < gl + 1 by omega); have ba := below1 w1 (.cells #[.slice A3 n3 c3, .slice A4 n4 c4, .int .i64 x.s, .int .i64 x.f] 48); have ot2 := ot1.below ba; have R2 := (it_cell w1 ⟨(A3, n3, c3), (A4, n4, c4), x⟩).read; have z2 : gl + 1 ≤ (w1.alloc (.cells #[.slice A3 n3 c3, .slice A4 n4 c4, .int .i64 x.s, .int .i64 x.f] 48)).heap.size := Nat.le_trans (Nat.le_trans lw k1.size) ba.size))
        have b1 := blw_own b k1 b.size s1
        have l1 := l.grown k1
        have P1 : GB w1 (gl + 1) (some ⟨gp, 0, none⟩) L L pre := GC.grown_lt P k1 (by omega)
        have d2 := d1.below ba
        have l2 := l1.below ba
        have P2 := GB.below P1 ba
        have b2 := blw_step b1 ba
        have op2 := GB.below op ba
        have oq2 := GB.below oq ba
        have ot4 := ot2.push (z := ⟨(A3, n3, c3), (A4, n4, c4), x⟩) op2 oq2 hpq (fun s hs a ha => (HLO.out s hs a ha).1) (show gl + 1 ≤ wr.heap.size from lw) k4 o4 q4
        have d4 := d2.under_gcT ot2.row (show r < gl + 1 by omega) k4
        have l4 := l2.under_gc ot2.row (Nat.lt_succ_self gl) k4
        have P4 : GB w4 (gl + 1) (some ⟨gp, 0, none⟩) L L pre := GC.apart P2 ot2.row k4 (by decide)
        have b4 := (GC.lower ot2.row (Nat.le_succ_of_le s2)).under b2 k4 b2.size
        have cc4 := l4.c0
        clear k4 o4 ot2 op oq op2 oq2 d1 d2 l1 l2 P1 P2 b1 b2 ba R2 IT k1 ot1 d l P b z2 hpq lw HLO ot
        by_cases he : e6 = 0
        · rw [if_pos he] at HI
          have t0 : (e6 != 0) = false := by rw [he]; rfl
          have ER := fun W q => Err_calls r B a6 e6 W q
          rw [he] at HI d4
          rw [he] at ER t0
          clear he e6
          go_upto_region 13 with (go_at_call 51; refine (ER _ d4).mono ?_; rintro en w5 ⟨rfl, j5, h5⟩; have H5 := hideIt h5; clear h5)
          have bq := below_drewN (Below.refl w4.heap.size w4) j5
          have ot5 := (ot4.below bq).at_world H5.out
          have d5 : Rd w5 r B a6 0 := by rw [H5.out]; exact d4.below bq
          have l5 : LR w5 gl r (some ⟨gp, 0, none⟩) L L := by rw [H5.out]; exact l4.below bq
          have P5 : GB w5 (gl + 1) (some ⟨gp, 0, none⟩) L L pre := by rw [H5.out]; exact GB.below P4 bq
          have b5 : Below w.heap.size w w5 := by rw [H5.out]; exact blw_step b4 bq
          have HI2 : Hid ((itemsT B pre j' a6 0).map (its (zs ++ [⟨(A3, n3, c3), (A4, n4, c4), x⟩]) ++ ·) = RS) := hideIt (by
            rw [← HI.out, Option.map_map]
            congr 1
            funext m
            simp [its])
          clear H5 ot4 d4 l4 P4 b4 cc4 bq HI ER
          go_wp2
          go_roundw
          case rel => exact ⟨i + 1, j', a6, c4', 0, _, _, hideIt (by have := HIJ.out; omega), by omega, by go_num, rfl, ot5, HI2, d5, l5, P5, b5⟩
          case measure => simp [intOf]; omega
        · rw [if_neg he] at HI
          have t0 : (e6 != 0) = true := by rw [bne_iff_ne]; exact he
          have ER := fun W q => Err_calls r B a6 e6 W q
          have hno : decT B = none := by
            rw [HD.out, ← HI.out]; rfl
          have HNO := hideIt hno
          clear he HI hno
          go_upto_region 13 with (go_at_call 51; refine (ER _ d4).mono ?_; rintro en w5 ⟨rfl, j5, h5⟩; have H5 := hideIt h5; clear h5)
          have bq := below_drewN (Below.refl w4.heap.size w4) j5
          have b5 : Below w.heap.size w w5 := by rw [H5.out]; exact blw_step b4 bq
          have NO := hideIt (DecOut.no HNO.out b5)
          clear H5 ot4 d4 l4 P4 b4 cc4 bq ER
          go_wp2
          go_ret2
          exact NO.out
      · obtain rfl : k = i := by omega
        have hj0 : j = 0 := by have := HIJ.out; omega
        subst hj0
        have hRS : RS = some (its zs) := by
          rw [← HR.out]
          simp [itemsT]
        rw [hRS] at HD
        have rt := ot.read
        have h1 := h.below b
        by_cases hE : errT (its zs) = 0
        · have EN := Encode_ok _ _ _ _ _ wr rt hE
          obtain ⟨rr, hrr⟩ : ∃ rr, decide (bodyT (its zs) = B) = rr := ⟨_, rfl⟩
          have hdz : decT B = if rr then some (its zs) else none := by
            rw [HD.out]
            unfold chkT
            rw [← hrr]
            by_cases z : bodyT (its zs) = B
            · simp [z, hE]
            · simp [z]
          have HDZ := hideIt hdz
          have HRR := hideIt hrr
          clear HR hRS d l P HIJ HD hdz hrr hE
          go_upto_region 17 with (go_at_call 23; refine EN.mono ?_; rintro en w9 ⟨g9, rfl, s9, o9, y9⟩)
          have h9 := h1.below y9
          have ot9 := ot.below y9
          have b9 := blw_step b y9
          have EQ := Equal_calls _ _ _ _ _ _ _ _ w9 o9.read h9 rr HRR.out
          clear EN o9 y9 s9 ot b h1 rt HRR
          cases rr
          · have NO := fun W (b : Below w.heap.size w W) => DecOut.no (by rw [HDZ.out]; rfl) b
            go_upto_region 18 with (go_at_call 52; refine EQ.mono ?_; rintro en w10 ⟨rfl, j10, hj⟩; have HJ := hideIt hj; clear hj)
            have b10 : Below w.heap.size w w10 := by rw [HJ.out]; exact blw_step b9 (below_drewN (Below.refl w9.heap.size w9) j10)
            have NO2 := hideIt (NO w10 b10)
            clear NO HJ EQ h9 ot9 b9
            go_wp2
            go_ret2
            exact NO2.out
          · have YES := fun W (o : OT W w.heap.size A2 k c2 zs) (b : Below w.heap.size w W) => DecOut.yes (B := B) (by rw [HDZ.out]; rfl) o b
            go_upto_region 19 with (go_at_call 52; refine EQ.mono ?_; rintro en w10 ⟨rfl, j10, hj⟩; have HJ := hideIt hj; clear hj)
            have bq := below_drewN (Below.refl w9.heap.size w9) j10
            have b10 : Below w.heap.size w w10 := by rw [HJ.out]; exact blw_step b9 bq
            have ot10 := (ot9.below bq).at_world HJ.out
            have Y2 := hideIt (YES w10 (ot10.lower (by omega)) b10)
            clear YES HJ EQ h9 ot9 b9 bq
            go_wp2
            go_ret2
            exact Y2.out
        · have EN := Encode_no _ _ _ _ _ wr rt (by omega) hE
          have hdz : decT B = none := by
            rw [HD.out]; unfold chkT; simp [hE]
          have NO := fun W (b : Below w.heap.size w W) => DecOut.no hdz b
          have t0 : (errT (its zs) != 0) = true := by rw [bne_iff_ne]; exact hE
          generalize errT (its zs) = E at EN t0
          clear HR hRS d l P HIJ HD hdz hE
          go_upto_region 17 with (go_at_call 23; refine EN.mono ?_; rintro en w9 ⟨rfl, y9⟩)
          have b9 := blw_step b y9
          have NO2 := hideIt (NO w9 b9)
          clear NO EN y9 ot b h1 rt
          go_wp2
          go_ret2
          exact NO2.out
  · have hd : decT B = none := by unfold decT; rw [if_neg (by rw [hlen]; exact hn)]
    have t1 : ((n : Int) != 4092) = true := by rw [bne_iff_ne]; omega
    have mx : n ≤ 9223372036854775807 := by have h1 := RC.le h; have h2 := RC.mx h; rw [maxLen_is] at h2; omega
    have no := DecOut.no hd (Below.refl w.heap.size w)
    have NO := hideIt no
    clear hn hlen no
    go_enter Try.func25, Try.ntmps25
    go_wp2
    go_ret2
    exact NO.out
end Go.Proofs.Ytieoleiokjoccaa
