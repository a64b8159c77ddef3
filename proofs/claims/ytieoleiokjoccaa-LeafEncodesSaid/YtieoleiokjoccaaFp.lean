/- coppiceref4: Encode of anything, Decode. -/
import Derived.Test.YtieoleiokjoccaaFo
namespace Go.Proofs.Ytieoleiokjoccaa
open Go.RowKit

set_option maxRecDepth 100000 in
set_option maxHeartbeats 1000000 in
theorem refEncode_no (A : Option Addr) (n c : Nat) (vs : List Value) (l : List It) (w : World) (h : RT w A n c vs l) (hn : n ≤ 70000) (hw : errT l ≠ 0) :
    Calls Try.prog 41 #[.slice A n c] w fun e w' => e = .returned (.tuple #[.slice none 0 0, .int .i64 (errT l)]) ∧ Below w.heap.size w w' := by
  have MY := fun W q => Wrong_calls A n c vs l W q
  by_cases h0 : wrongT l = 0
  · have hs : 4092 < sizeT l := by
      unfold errT at hw
      rw [if_pos h0] at hw
      by_cases z : 4092 < sizeT l
      · exact z
      · rw [if_neg z] at hw; exact absurd rfl hw
    have e42 : errT l = 42 := by unfold errT; rw [if_pos h0, if_pos hs]
    have hF : FewT n l := ⟨hn, fun x hx => by
      have hk : l.all lenOk = true := by
        unfold wrongT at h0
        by_cases q : l.length = 0
        · rw [if_pos q] at h0; cases h0
        · rw [if_neg q] at h0
          by_cases q2 : l.all lenOk = true
          · exact q2
          · rw [if_neg q2] at h0; cases h0
      have := of_decide_eq_true (List.all_eq_true.1 hk x hx)
      omega⟩
    have SZ := fun W q => refSize_calls A n c vs l W q hF
    rw [e42]
    rw [h0] at MY
    generalize sizeT l = Z at hs SZ
    have t1 : decide ((4092 : Int) < (Z : Int)) = true := decide_eq_true (by omega)
    clear h0 hs e42 hw hF
    go_enter Try.func41, Try.ntmps41
    go_wp2_with (first
      | (go_at_call 28; refine (MY _ h).mono ?_; rintro en w1 ⟨rfl, b1⟩; have h1 := h.below b1)
      | (go_at_call 17; refine (SZ _ h1).mono ?_; rintro en w2 ⟨rfl, j2, y2⟩; have b2 : Below w.heap.size w w2 := (by rw [y2]; exact below_drewN b1 j2); clear y2))
    go_ret2
    exact ⟨rfl, b2⟩
  · have e : errT l = wrongT l := by unfold errT; rw [if_neg h0]
    rw [e]
    generalize wrongT l = z at *
    have t1 : (z != 0) = true := by rw [bne_iff_ne]; exact h0
    clear h0 e hw
    go_enter Try.func41, Try.ntmps41
    go_wp2_with (go_at_call 28; refine (MY _ h).mono ?_; rintro en w1 ⟨rfl, b1⟩)
    go_ret2
    exact ⟨rfl, b1⟩
theorem refEncode_calls (A : Option Addr) (n c : Nat) (vs : List Value) (l : List It) (w : World) (h : RT w A n c vs l) (hn : n ≤ 70000) :
    Calls Try.prog 41 #[.slice A n c] w fun e w' => ∃ (A' : Option Addr) (n' c' : Nat), e = .returned (.tuple #[.slice A' n' c', .int .i64 (encT l).2]) ∧ RB w' A' n' c' (encT l).1 ∧ Below w.heap.size w w' := by
  by_cases hw : errT l = 0
  · refine (refEncode_ok A n c vs l w h hw).mono ?_
    rintro e w' ⟨g, c', rfl, h1, h2, h3⟩
    unfold encT
    rw [if_pos hw]
    exact ⟨_, _, _, rfl, h2.read, h3⟩
  · refine (refEncode_no A n c vs l w h hn hw).mono ?_
    rintro e w' ⟨rfl, h3⟩
    unfold encT
    rw [if_neg hw]
    exact ⟨none, 0, 0, rfl, RB.nil _, h3⟩
theorem rNum1T (g : Nat) (B : List UInt8) (at_ : Nat) (er : Int) (w : World) (h : Rd w g B at_ er) :
    Calls Try.prog 64 #[.pointer (some ⟨g, 0, none⟩), .int .i64 1] w fun e w' => e = .returned (.int .u64 ((numS B at_ er 1).1 : Nat)) ∧ Rd w' g B (numS B at_ er 1).2.1 (numS B at_ er 1).2.2 ∧ w.grownBy w' (some g) := rNum_any g B at_ 1 er w h (by decide)
theorem rNum2T (g : Nat) (B : List UInt8) (at_ : Nat) (er : Int) (w : World) (h : Rd w g B at_ er) :
    Calls Try.prog 64 #[.pointer (some ⟨g, 0, none⟩), .int .i64 2] w fun e w' => e = .returned (.int .u64 ((numS B at_ er 2).1 : Nat)) ∧ Rd w' g B (numS B at_ er 2).2.1 (numS B at_ er 2).2.2 ∧ w.grownBy w' (some g) := rNum_any g B at_ 2 er w h (by decide)

set_option maxRecDepth 100000 in
set_option maxHeartbeats 8000000 in
theorem refDecode_calls (A : Option Addr) (n c : Nat) (B : List UInt8) (w : World) (h : RB w A n c B) :
    Calls Try.prog 42 #[.slice A n c] w (DecOut B w) := by
  have hlen := h.len
  by_cases hn : n = 4092
  · subst hn
    obtain ⟨x1, a1, e1, E1⟩ : ∃ x a e, numS B 0 0 1 = (x, a, e) := ⟨_, _, _, rfl⟩
    have G1 := fun r W q => rNum1T r B 0 0 W q
    rw [E1] at G1
    obtain ⟨k, a2, e2, E2⟩ : ∃ x a e, numS B a1 e1 2 = (x, a, e) := ⟨_, _, _, rfl⟩
    have kl : k < 65536 := by have := numS_lt B a1 e1 2; rw [E2] at this; exact this
    have G2 := fun r W q => rNum2T r B a1 e1 W q
    rw [E2] at G2
    have hcnt : cntR B = (k, a2, e2) := by unfold cntR; rw [E1]; exact E2
    obtain ⟨p, av, ev, EV⟩ : ∃ x a e, vS B a2 e2 = (x, a, e) := ⟨_, _, _, rfl⟩
    have G3 := fun r W q => rV_any r B a2 e2 W q
    rw [EV] at G3
    have hpR : pR B = (p, av, ev) := by unfold pR; rw [hcnt]; exact EV
    by_cases hp : 255 < p
    · have hdec : decT B = none := by
        rw [← decR_eq]; unfold decR readR
        rw [if_pos hlen, hpR]
        simp only [if_pos hp]
        rfl
      have t1 : decide ((255 : Int) < (p : Int)) = true := decide_eq_true (by omega)
      have NO := fun W (b : Below w.heap.size w W) => DecOut.no hdec b
      have wk : IntKind.i64.wrap (k : Int) = (k : Int) := IntWalk.i64_in _ (by omega)
      simp only at G1 G2 G3
      clear hcnt hpR hdec E1 E2 EV hp hlen
      go_enter Try.func42, Try.ntmps42
      go_upto_region 4 with (go_at_call 63; refine (New_calls _ _ _ _ _ h (by omega)).mono ?_; rintro en w1 ⟨r, rfl, s1, d1, b1⟩)
      go_upto_region 5 with (go_at_call 64; refine (G1 _ _ d1).mono ?_; rintro en w2 ⟨rfl, d2, k2⟩)
      have b2 := blw_own b1 k2 b1.size s1
      go_upto_region 6 with (go_at_call 64; refine (G2 _ _ d2).mono ?_; rintro en w3 ⟨rfl, d3, k3⟩)
      have b3 := blw_own b2 k3 b2.size s1
      go_upto_region 7 with (go_at_call 65; refine (G3 _ _ d3).mono ?_; rintro en w4 ⟨rfl, d4, k4⟩)
      have b4 := blw_own b3 k4 b3.size s1
      have NO2 := hideIt (NO w4 b4)
      clear NO G1 G2 G3 d1 d2 d3 d4 k2 k3 k4 b1 b2 b3
      go_wp2
      go_ret2
      exact NO2.out
    · obtain ⟨pre, a4, e4, E4⟩ : ∃ x a e, bytesS B av ev ((p : Nat) : Int) = (x, a, e) := ⟨_, _, _, rfl⟩
      have G4 := fun r W q => rBytes_own r B av ev ((p : Nat) : Int) W q (by omega)
      rw [E4] at G4
      have prel : pre.length ≤ 255 := by
        have : (bytesS B av ev ((p : Nat) : Int)).1.length ≤ 255 := by
          unfold bytesS
          split
          · rw [List.length_take]; omega
          · exact Nat.zero_le _
        rw [E4] at this
        exact this
      have hpfx : pfxR B = (pre, a4, e4) := by unfold pfxR; rw [hpR]; exact E4
      obtain ⟨sk, a5, e5, E5⟩ : ∃ x a e, bytesS B a4 e4 ((2 * k : Nat) : Int) = (x, a, e) := ⟨_, _, _, rfl⟩
      have G5 := fun r W q => rBytes_own r B a4 e4 ((2 * k : Nat) : Int) W q (by omega)
      rw [E5] at G5
      have e2k : ((2 * k : Nat) : Int) = 2 * (k : Int) := by omega
      rw [e2k] at G5
      have hskip : skipR B = (sk, a5, e5) := by unfold skipR; rw [hpfx, hcnt]; exact E5
      have hread : readR B = itemsR B pre k a5 e5 := by unfold readR; rw [hpR, hpfx, hcnt, hskip]; simp only; rw [if_neg hp]
      have hdec : decT B = chkT B (itemsR B pre k a5 e5) := by
        rw [← decR_eq]; unfold decR; rw [if_pos hlen, hread]
      obtain ⟨RS, hRS⟩ : ∃ RS, itemsR B pre k a5 e5 = RS := ⟨_, rfl⟩
      rw [hRS] at hdec
      have HRS := hideIt hRS
      have HD := hideIt hdec
      have HBL := hideIt hlen
      have t1 : decide ((255 : Int) < (p : Int)) = false := decide_eq_false (by omega)
      have wk : IntKind.i64.wrap (k : Int) = (k : Int) := IntWalk.i64_in _ (by omega)
      have wp : IntKind.i64.wrap (p : Int) = (p : Int) := IntWalk.i64_in _ (by omega)
      simp only at G1 G2 G3 G4 G5
      clear hcnt hpR hpfx hskip hread hdec hRS E1 E2 EV E4 E5 hp hlen e2k
      go_enter Try.func42, Try.ntmps42
      go_upto_region 4 with (go_at_call 63; refine (New_calls _ _ _ _ _ h (by omega)).mono ?_; rintro en w1 ⟨r, rfl, s1, d1, b1⟩)
      go_upto_region 5 with (go_at_call 64; refine (G1 _ _ d1).mono ?_; rintro en w2 ⟨rfl, d2, k2⟩)
      have b2 := blw_own b1 k2 b1.size s1
      go_upto_region 6 with (go_at_call 64; refine (G2 _ _ d2).mono ?_; rintro en w3 ⟨rfl, d3, k3⟩)
      have b3 := blw_own b2 k3 b2.size s1
      go_upto_region 7 with (go_at_call 65; refine (G3 _ _ d3).mono ?_; rintro en w4 ⟨rfl, d4, k4⟩)
      have b4 := blw_own b3 k4 b3.size s1
      clear G1 G2 G3 d1 d2 d3 k2 k3 k4 b1 b2 b3
      go_upto_region 10 with (go_at_call 66; refine (G4 _ _ d4).mono ?_; rintro en w6 ⟨Ap, L, cp, rfl, o6, d6, k6⟩)
      have lr4 := d4.lt
      have b6 := blw_own b4 k6 b4.size s1
      have P6 : GB w6 (r + 1) Ap L cp pre := GC.lower o6 lr4
      clear G4 d4 k6 b4 o6 lr4
      go_upto_region 11 with (go_at_call 66; refine (G5 _ _ d6).mono ?_; rintro en w8 ⟨A8, L8, c8, rfl, o8, d8, k8⟩)
      have P8 : GB w8 (r + 1) Ap L cp pre := GC.grown_lt P6 k8 (Nat.lt_succ_self r)
      have b8 := blw_own b6 k8 b6.size s1
      clear G5 d6 k8 b6 o8 P6
      have HR0 : Hid ((itemsR B pre k a5 e5).map ([] ++ ·) = RS) := hideIt (by rw [HRS.out]; cases RS <;> rfl)
      go_wp2
      go_loopw [8, 9] (fun ll ii wr => ∃ (i j a c2 : Nat) (e : Int) (A2 : Option Addr) (zs : List Cel), Hid (i + j = k) ∧ i ≤ k ∧ ii = .int .i64 (i : Int) ∧ ll = .slice A2 i c2 ∧ OT wr (r + 1) A2 i c2 zs ∧ Hid ((itemsR B pre j a e).map (its zs ++ ·) = RS) ∧ Rd wr r B a e ∧ GB wr (r + 1) Ap L cp pre ∧ Below w.heap.size w wr)
        (fun _ ii _ => k - (intOf ii).toNat)
      case atStart => exact ⟨0, k, a5, 0, e5, none, [], hideIt (by omega), by omega, rfl, rfl, OT.nil _ _, HR0, d8, P8, b8⟩
      case round =>
        clear HR0 d8 P8 b8 HRS
        obtain ⟨i, j, a, c2, e, A2, zs, HIJ, hi, rfl, rfl, ot, HR, d, P, b⟩ := hrel
        obtain ⟨gb, nb, cb, rc0, rc1, rc2, -, -, -, -, -, -, -⟩ := d.laid
        have lr := d.lt
        by_cases hlt : i < k
        · obtain ⟨j', rfl⟩ : ∃ j', j = j' + 1 := ⟨j - 1, by have := HIJ.out; omega⟩
          have i1 : (i : Int) < (k : Int) := by omega
          by_cases he : e = 0
          · subst he
            have IT := refitem_calls r _ _ _ B pre a 0 wr d P prel (by rw [HBL.out]; exact Nat.le_refl _)
            have HI : Hid (((itemsR B pre j' (itemR B pre a 0).2.1 (itemR B pre a 0).2.2).map ((itemR B pre a 0).1 :: ·)).map (its zs ++ ·) = RS) := hideIt (by
              have := HR.out; rw [itemsR, if_pos rfl] at this; exact this)
            obtain ⟨X, hX⟩ : ∃ X, itemR B pre a 0 = X := ⟨_, rfl⟩
            obtain ⟨x, a6, e6⟩ := X
            rw [hX] at IT HI
            simp only at IT HI
            have HLO := hideIt ot.lt
            clear HR hX
            go_upto_region 15 with fail
            go_upto_region 16 with (go_at_call 67; refine IT.mono ?_; intro en w1 q; obtain ⟨⟨A3, n3, c3⟩, ⟨A4, n4, c4⟩, rfl, op, oq, hpq, d1, k1⟩ := q; simp only [sv] at *)
            have ot1 := ot.grown_lt k1 (Nat.lt_succ_self r)
            have b1 := blw_own b k1 b.size s1
            have P1 : GB w1 (r + 1) Ap L cp pre := GC.grown_lt P k1 (Nat.lt_succ_self r)
            have ba := below1 w1 (.cells #[.slice A3 n3 c3, .slice A4 n4 c4, .int .i64 x.s, .int .i64 x.f] 48)
            have z1 : r + 1 ≤ w1.heap.size := Nat.le_trans lr k1.size
            have d2 := d1.below ba
            have ot2 := ot1.below ba
            have P2 := GB.below P1 ba
            have b2 := blw_step b1 ba
            have op2 := GB.below op ba
            have oq2 := GB.below oq ba
            generalize hw2 : w1.alloc (.cells #[.slice A3 n3 c3, .slice A4 n4 c4, .int .i64 x.s, .int .i64 x.f] 48) = w2 at *
            have ia := ItAt.new w1 48 (A3, n3, c3) (A4, n4, c4) x.s x.f
            simp only at ia
            rw [hw2] at ia
            obtain ⟨v0, v1, v2, v3⟩ := ia.head
            simp only at v0 v1
            have z2 := Nat.le_trans z1 ba.size
            generalize w1.heap.size = gx at *
            clear hw2 ia ot1 P1 b1 op oq d1 k1 IT d P b ot rc0 rc1 rc2
            have bb := below1 w2 (.cells #[.slice A3 n3 c3, .slice A4 n4 c4, .int .i64 x.s, .int .i64 x.f] 48)
            have ot3 := ot2.below bb
            have R3 := (it_cell w2 ⟨(A3, n3, c3), (A4, n4, c4), x⟩).read
            simp only at R3
            have z3 := Nat.le_trans z2 bb.size
            go_wp2_with (with_reducible refine wpT_app rfl (.tmp 51) (.tmp 53) rfl (r + 1) _ _ _ _ rfl ot3.row _ ⟨(A3, n3, c3), (A4, n4, c4), x⟩ rfl R3 (by omega) z3 ?_; intro g4 c4' w4 q4 o4 k4)
            have d3 := d2.below bb
            have P3 := GB.below P2 bb
            have b3 := blw_step b2 bb
            have op3 := GB.below op2 bb
            have oq3 := GB.below oq2 bb
            have ot4 := ot3.push (z := ⟨(A3, n3, c3), (A4, n4, c4), x⟩) op3 oq3 hpq (fun s hs a ha => (HLO.out s hs a ha).1) (show r + 1 ≤ wr.heap.size from lr) k4 o4 q4
            have d4 := d3.under_gcT ot3.row (Nat.lt_succ_self r) k4
            have P4 : GB w4 (r + 1) Ap L cp pre := GC.apart P3 ot3.row k4 (by decide)
            have b4 := (GC.lower ot3.row (Nat.le_succ_of_le s1)).under b3 k4 b3.size
            have HI2 : Hid ((itemsR B pre j' a6 e6).map (its (zs ++ [⟨(A3, n3, c3), (A4, n4, c4), x⟩]) ++ ·) = RS) := hideIt (by
              rw [← HI.out, Option.map_map]
              congr 1
              funext m
              simp [its])
            go_roundw
            case rel => exact ⟨i + 1, j', a6, c4', e6, _, _, hideIt (by have := HIJ.out; omega), by omega, by go_num, rfl, ot4, HI2, d4, P4, b4⟩
            case measure => simp [intOf]; omega
          · have hno : decT B = none := by
              rw [HD.out, ← HR.out, itemsR, if_neg he]; rfl
            have te : (e == 0) = false := beq_eq_false_iff_ne.2 he
            have te2 : (e != 0) = true := by rw [bne_iff_ne]; exact he
            have NO2 := hideIt (DecOut.no hno b)
            clear HR he hno ot P d b
            go_wp2
            go_ret2
            exact NO2.out
        · obtain rfl : k = i := by omega
          have hj0 : j = 0 := by have := HIJ.out; omega
          subst hj0
          have t2 : decide ((k : Int) < (k : Int)) = false := decide_eq_false (by omega)
          by_cases he : e = 0
          · subst he
            have hRS : RS = some (its zs) := by
              rw [← HR.out]
              simp [itemsR]
            rw [hRS] at HD
            have rt := ot.read
            have h1 := h.below b
            by_cases hE : errT (its zs) = 0
            · have EN := refEncode_ok _ _ _ _ _ wr rt hE
              obtain ⟨rr, hrr⟩ : ∃ rr, decide (bodyT (its zs) = B) = rr := ⟨_, rfl⟩
              have hdz : decT B = if rr then some (its zs) else none := by
                rw [HD.out]
                unfold chkT
                rw [← hrr]
                by_cases z : bodyT (its zs) = B
                · simp [z, hE]
                · simp [z]
              have HDZ := hideIt hdz
              have HRR := hideIt hrr
              clear HR hRS d P HIJ HD hdz hrr hE
              go_upto_region 20 with (go_at_call 41; refine EN.mono ?_; rintro en w9 ⟨g9, c9, rfl, s9, o9, y9⟩)
              have h9 := h1.below y9
              have ot9 := ot.below y9
              have b9 := blw_step b y9
              have EQ := SameBytes_calls _ _ _ _ _ _ _ _ w9 o9.read h9 rr HRR.out.symm
              clear EN o9 y9 s9 ot b h1 rt HRR rc0 rc1 rc2
              cases rr
              · have NO2 := hideIt (DecOut.no (by rw [HDZ.out]; rfl) b9)
                clear h9 ot9 b9 HDZ
                go_wp2_with (go_at_call 27; refine EQ.mono ?_; rintro en w10 ⟨rfl, rfl⟩)
                go_ret2
                exact NO2.out
              · have Y2 := hideIt (DecOut.yes (B := B) (by rw [HDZ.out]; rfl) (ot9.lower (Nat.le_succ_of_le s1)) b9)
                clear h9 ot9 b9 HDZ
                go_wp2_with (go_at_call 27; refine EQ.mono ?_; rintro en w10 ⟨rfl, rfl⟩)
                go_ret2
                exact Y2.out
            · have EN := refEncode_no _ _ _ _ _ wr rt (by omega) hE
              have hdz : decT B = none := by
                rw [HD.out]; unfold chkT; simp [hE]
              have NO := fun W (b : Below w.heap.size w W) => DecOut.no hdz b
              have t0 : (errT (its zs) != 0) = true := by rw [bne_iff_ne]; exact hE
              obtain ⟨rr, hrr⟩ : ∃ rr, decide (([] : List UInt8) = B) = rr := ⟨_, rfl⟩
              have SB := fun W q => SameBytes_calls none A 0 0 4092 c [] B W (RB.nil _) q rr hrr.symm
              generalize errT (its zs) = E at EN t0
              clear HR hRS d P HIJ HD hdz hE hrr
              go_upto_region 20 with (go_at_call 41; refine EN.mono ?_; rintro en w9 ⟨rfl, y9⟩)
              have h9 := h1.below y9
              have b9 := blw_step b y9
              have NO2 := hideIt (NO w9 b9)
              clear NO EN y9 ot b h1 rt rc0 rc1 rc2
              go_wp2_with (go_at_call 27; refine (SB _ h9).mono ?_; rintro en w10 ⟨rfl, rfl⟩)
              go_ret2
              exact NO2.out
          · have hno : decT B = none := by
              rw [HD.out, ← HR.out, itemsR, if_neg he]; rfl
            have te2 : (e != 0) = true := by rw [bne_iff_ne]; exact he
            have NO2 := hideIt (DecOut.no hno b)
            clear HR he hno ot P d b
            go_wp2
            go_ret2
            exact NO2.out
  · have hd : decT B = none := by unfold decT; rw [if_neg (by rw [hlen]; exact hn)]
    have t1 : ((n : Int) != 4092) = true := by rw [bne_iff_ne]; omega
    have mx : n ≤ 9223372036854775807 := by have h1 := RC.le h; have h2 := RC.mx h; rw [maxLen_is] at h2; omega
    have no := DecOut.no hd (Below.refl w.heap.size w)
    have NO := hideIt no
    clear hn hlen no
    go_enter Try.func42, Try.ntmps42
    go_wp2
    go_ret2
    exact NO.out
end Go.Proofs.Ytieoleiokjoccaa
