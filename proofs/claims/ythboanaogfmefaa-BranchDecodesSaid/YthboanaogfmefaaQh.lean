/- coppiceref5.read. -/
import Derived.Test.YthboanaogfmefaaQg
namespace Go.Proofs.Ythboanaogfmefaa
open Go.RowKit

theorem least_none {B : List UInt8} {a : Nat} (h : least3 (B.drop a) 3 0 0 = none) : leastS B a = none := by unfold leastS; rw [h]; rfl
theorem least_some {B : List UInt8} {a x q : Nat} (h : least3 (B.drop a) 3 0 0 = some (x, q)) : leastS B a = some (x, a + q) := by unfold leastS; rw [h]; rfl
theorem least_of (z : Int) (A : Option Addr) (n c : Nat) (B : List UInt8) (at_ : Nat) (T : Option (Nat × Nat)) (w : World) (h : RB w A n c B) (hz : z = (at_ : Int)) (hb : at_ ≤ 1000000) (hn : n ≤ 1000000) (hT : least3 (B.drop at_) 3 0 0 = T) :
    Calls Try.prog 72 #[.slice A n c, .int .i64 z] w fun e w' => e = .returned (.tuple #[.int .i64 (LO2 T at_).1, .int .i64 (LO2 T at_).2]) ∧ Below w.heap.size w w' := by
  subst hz hT; exact least_calls A n c B at_ w h hb hn
theorem number_of (z : Int) (A : Option Addr) (n c : Nat) (B : List UInt8) (at_ x : Nat) (w : World) (h : RB w A n c B) (hz : z = (at_ : Int)) (hb : at_ + 4 ≤ n) (hn : n ≤ 1000000) (hx : numR B at_ = x) :
    Calls Try.prog 73 #[.slice A n c, .int .i64 z] w fun e w' => e = .returned (.int .i64 (x : Int)) ∧ ∃ j, w' = w.drewN j := by
  subst hz hx; exact number_calls A n c B at_ w h hb hn
theorem sepsR_step {B pre : List UInt8} {k a x q nx : Nat} (h : least3 (B.drop a) 3 0 0 = some (x, q)) (hx : a + q = nx) (hf : nx + x + 8 ≤ B.length) : sepsR B pre (k + 1) a = (sepsR B pre k (nx + x + 8)).map fun z => ((pre ++ (B.drop nx).take x) :: z.1, kidR B (nx + x) :: z.2) := by
  rw [sepsR, least_some h, hx]
  simp only
  rw [if_pos hf]
theorem sepsR_no {B pre : List UInt8} {k a x q nx : Nat} (h : least3 (B.drop a) 3 0 0 = some (x, q)) (hx : a + q = nx) (hf : ¬ nx + x + 8 ≤ B.length) : sepsR B pre (k + 1) a = none := by
  rw [sepsR, least_some h, hx]
  simp only
  rw [if_neg hf]
theorem sepsR_none {B pre : List UInt8} {k a : Nat} (h : least3 (B.drop a) 3 0 0 = none) : sepsR B pre (k + 1) a = none := by
  rw [sepsR, least_none h]

abbrev RT := Option (Int × List (List UInt8) × List (Int × Int))
def mapT (v : Int) (ls : List (List UInt8)) (ks : List (Int × Int)) (z : Option (List (List UInt8) × List (Int × Int))) : RT := z.map fun q => (v, ls ++ q.1, ks ++ q.2)
def ReadOut (T : RT) (w : World) (e : Ending) (w' : World) : Prop :=
  match T with
  | none => e = .returned (.tuple #[.int .i64 0, .slice none 0 0, .slice none 0 0, .bool false]) ∧ Below w.heap.size w w'
  | some (v, l, ks) => ∃ (A1 : Option Addr) (n1 c1 : Nat) (ps : List (Option Addr × Nat × Nat)) (A2 : Option Addr) (n2 c2 : Nat), e = .returned (.tuple #[.int .i64 v, .slice A1 n1 c1, .slice A2 n2 c2, .bool true]) ∧ OM w' w.heap.size A1 n1 c1 ps l ∧ GK w' w.heap.size A2 n2 c2 ks ∧ Below w.heap.size w w'
theorem ReadOut.no {T : RT} {w w' : World} (h : T = none) (b : Below w.heap.size w w') : ReadOut T w (.returned (.tuple #[.int .i64 0, .slice none 0 0, .slice none 0 0, .bool false])) w' := by
  subst h; exact ⟨rfl, b⟩

set_option maxRecDepth 100000 in
set_option maxHeartbeats 8000000 in
theorem refRead_calls (A : Option Addr) (c : Nat) (B : List UInt8) (w : World) (hB : RB w A 4092 c B) :
    Calls Try.prog 62 #[.slice A 4092 c] w (ReadOut (readR B) w) := by
  have hl := hB.len
  have hc := RC.le hB
  obtain ⟨ad, rfl, cells⟩ := hB.addr (by omega)
  have key : ∀ j, j < B.length → ∃ b : Nat, b < 256 ∧ Hid ((B.getD j 0).toNat = b) ∧ w.cell? (ad.add j) = some (.int .u8 (b : Int)) := by
    intro j hj
    exact ⟨_, (B.getD j 0).toNat_lt, hideIt rfl, by rw [List.getD_eq_getElem?_getD, List.getElem?_eq_getElem hj]; exact cells j hj⟩
  have ea : ∀ j, ad.add (j + 1) = ⟨ad.block, ad.off + (j + 1), none⟩ := fun j => by unfold Addr.add; exact if_neg (by omega)
  obtain ⟨b1, u1, H1, c1⟩ := key 1 (by omega)
  obtain ⟨b2, u2, H2, c2⟩ := key 2 (by omega)
  obtain ⟨b3, u3, H3, c3⟩ := key 3 (by omega)
  rw [show (1 : Nat) = 0 + 1 from rfl, ea] at c1
  rw [show (2 : Nat) = 1 + 1 from rfl, ea] at c2
  rw [show (3 : Nat) = 2 + 1 from rfl, ea] at c3
  rw [show (0 : Nat) + 1 = 1 from rfl] at c1
  rw [show (1 : Nat) + 1 = 2 from rfl] at c2
  rw [show (2 : Nat) + 1 = 3 from rfl] at c3
  obtain ⟨N, hN⟩ : ∃ N, cntR B = N := ⟨_, rfl⟩
  have hN' : (b2 : Int) + 256 * (b3 : Int) = (N : Int) := by
    rw [← hN]; unfold cntR; rw [H2.out, H3.out]; omega
  have hv : ((B.getD 1 0).toNat : Nat) = b1 := H1.out
  obtain ⟨T, hT⟩ : ∃ T, readR B = T := ⟨_, rfl⟩
  obtain ⟨L3, h3⟩ : ∃ L3, least3 (B.drop 4) 3 0 0 = L3 := ⟨_, rfl⟩
  have LC := fun W q => least_of 4 (some ad) 4092 c B 4 L3 W q rfl (by decide) (by decide) h3
  rw [hT]
  have HT0 : Hid (readR B = T) := hideIt hT
  have HL := hideIt hl
  have HNN := hideIt hN
  have HV := hideIt hv
  have H33 := hideIt h3
  clear cells key ea hT H1 H2 H3 hl hN hv h3
  go_enter Try.func62, Try.ntmps62
  go_wp2
  go_quiet (fail)
  go_upto_region 3 with fail
  have h0 := hB.below (below_drewN (Below.refl _ _) nq)
  have b0 := below_drewN (Below.refl w.heap.size w) nq
  generalize w.drewN nq = w0 at h0 b0 ⊢
  have N6 : N ≤ 65535 := by omega
  clear hN' c1 c2 c3 u2 u3
  rcases L3 with _ | ⟨x, q⟩
  · have R0 : Hid (T = none) := hideIt (by rw [← HT0.out]; unfold readR; rw [least_none H33.out])
    simp only [LO2] at LC
    go_upto_region 4 with (go_at_call 72; refine (LC _ h0).mono ?_; rintro en w1 ⟨rfl, x1⟩)
    have b1' := blw_step b0 x1
    clear LC h0 x1 b0
    go_wp2
    (try simp only [Exit.inBlock, Exit.then]); refine bodyPost_ret (results_four rfl _ _ _) rfl ?_
    exact ReadOut.no R0.out b1'
  · obtain ⟨a0, ha0⟩ : ∃ a0, 4 + q = a0 := ⟨_, rfl⟩
    obtain ⟨g1, g2, g3, g4⟩ := leastS_le (least_some H33.out)
    rw [ha0] at g2 g3 g4
    rw [show (LO2 (some (x, q)) 4).1 = (x : Int) from rfl, show (LO2 (some (x, q)) 4).2 = (a0 : Int) by rw [← ha0]; rfl] at LC
    have HA0 := hideIt ha0
    have hla : a0 ≤ 7 := by omega
    clear ha0 g3 g4
    go_upto_region 4 with (go_at_call 72; refine (LC _ h0).mono ?_; rintro en w1 ⟨rfl, x1⟩)
    have h1 := h0.below x1
    have b1' := blw_step b0 x1
    clear LC h0 x1 b0
    have t1 : decide ((a0 : Int) < 0) = false := decide_eq_false (by omega)
    rcases Nat.eq_zero_or_pos N with hN0 | hN0
    · have R0 : Hid (T = none) := hideIt (by
        rw [← HT0.out]; unfold readR; rw [least_some H33.out]; simp only
        rw [if_neg (by rw [HNN.out, hN0]; exact fun z => z.1 rfl)])
      have t2 : ((N : Int) == 0) = true := by rw [hN0]; rfl
      clear hN0
      go_wp2
      (try simp only [Exit.inBlock, Exit.then]); refine bodyPost_ret (results_four rfl _ _ _) rfl ?_
      exact ReadOut.no R0.out b1'
    · obtain ⟨M, hM⟩ : ∃ M, N = M + 1 := ⟨N - 1, by omega⟩
      have e1 : (N : Int) - 1 = (M : Int) := by omega
      have t2 : ((N : Int) == 0) = false := beq_eq_false_iff_ne.2 (by omega)
      have HM := hideIt hM
      by_cases hfit : a0 + x + 2 * M + 8 ≤ 4092
      · have i1 : (a0 : Int) + (x : Int) ≤ (c : Int) := by omega
        have i2 : (a0 : Int) ≤ (a0 : Int) + (x : Int) := by omega
        have cut := hB.cut (A' := some (ad.add a0)) a0 (a0 + x) c (by omega) (by omega) (by omega) (Nat.le_refl _) (fun _ => rfl) (fun e => by cases e)
        obtain ⟨pre, hpre⟩ : ∃ pre, (B.drop a0).take x = pre := ⟨_, rfl⟩
        rw [show a0 + x - a0 = x by omega, hpre] at cut
        obtain ⟨a1, ha1⟩ : ∃ a1, a0 + x + 2 * M = a1 := ⟨_, rfl⟩
        have ea1 : (a0 : Int) + (x : Int) + 2 * (M : Int) = (a1 : Int) := by omega
        have t3 : decide ((4092 : Int) < (a1 : Int) + 8) = false := decide_eq_false (by omega)
        have HA1 := hideIt ha1
        have HPRE := hideIt hpre
        have a1l : a1 + 8 ≤ 4092 := by omega
        have xl : x ≤ 4092 := by omega
        have aN : Hid (a0 + x + 2 * (cntR B - 1) = a1) := hideIt (by rw [HNN.out, hM]; exact ha1)
        have ex : a0 + x - a0 = x := by omega
        clear ha1 hpre hfit hM
        go_upto_region 9 with fail
        obtain ⟨kx, hkx⟩ : ∃ kx, numR B a1 = kx := ⟨_, rfl⟩
        obtain ⟨ky, hky⟩ : ∃ ky, numR B (a1 + 4) = ky := ⟨_, rfl⟩
        have N1 := fun W q => number_of (a1 : Int) (some ad) 4092 c B a1 kx W q rfl (by omega) (by omega) hkx
        have N2 := fun W q => number_of ((a1 : Int) + 4) (some ad) 4092 c B (a1 + 4) ky W q (by omega) (by omega) (by omega) hky
        have HK : Hid (kidR B a1 = ((kx : Int), (ky : Int))) := hideIt (by unfold kidR; rw [hkx, hky])
        clear hkx hky ex ea1 i1 i2 e1 t1 t2 t3
        go_upto_region 10 with (first
          | (go_at_call 73; (with_reducible refine (N2 _ h2).mono ?_); rintro en w3 ⟨rfl, j3, e3⟩; have x3 := below_at (below_drewN (Below.refl w2.heap.size w2) j3) e3; clear e3)
          | (go_at_call 73; (with_reducible refine (N1 _ h1).mono ?_); rintro en w2 ⟨rfl, j2, e2⟩; have x2 := below_at (below_drewN (Below.refl w1.heap.size w1) j2) e2; have h2 := h1.below x2; clear e2))
        have ba := below1 w3 (.cells #[.int .i64 (kx : Int), .int .i64 (ky : Int)] 37)
        have x4 := blw_step (blw_step x2 x3) ba
        have b4 := blw_step b1' x4
        have z3 := (blw_step b1' (blw_step x2 x3)).size
        have K4 := GC.lower (kid_new w3 (kx : Int) (ky : Int)) z3
        clear N1 N2 x2 h2 x3 ba x4 b1' h1
        generalize w3.heap.size = g3 at K4 z3 ⊢
        generalize w3.alloc (.cells #[.int .i64 (kx : Int), .int .i64 (ky : Int)] 37) = w4 at K4 b4 ⊢
        obtain ⟨a2, ha2⟩ : ∃ a2, a1 + 8 = a2 := ⟨_, rfl⟩
        have ea2 : (a1 : Int) + 8 = (a2 : Int) := by omega
        have HR : Hid (mapT (b1 : Int) [] [((kx : Int), (ky : Int))] (sepsR B pre (M - 0) a2) = T) := hideIt (by
          rw [← HT0.out]; unfold readR mapT; rw [least_some H33.out, HA0.out]; simp only
          rw [if_pos ⟨by rw [HNN.out]; omega, by rw [aN.out, HL.out]; exact a1l⟩, HV.out, HPRE.out, aN.out, ha2, HNN.out, HM.out, HK.out]; rfl)
        have a2l : a2 ≤ 4092 := by omega
        clear ha2 HK HPRE aN HA1 HA0 HT0 H33 HNN HV
        go_wp2
        go_loopw [9, 11, 12, 13] (fun aa ss kk ii wr => ∃ (i q at2 c3 c4 : Nat) (A3 A4 : Option Addr) (ps : List (Option Addr × Nat × Nat)) (ls : List (List UInt8)) (ks : List (Int × Int)), Hid (i = q + 1) ∧ q ≤ M ∧ i ≤ N ∧ at2 ≤ 4092 ∧ aa = .int .i64 (at2 : Int) ∧ ss = .slice A3 q c3 ∧ kk = .slice A4 i c4 ∧ ii = .int .i64 (i : Int) ∧ OM wr w.heap.size A3 q c3 ps ls ∧ GK wr w.heap.size A4 i c4 ks ∧ Hid (mapT (b1 : Int) ls ks (sepsR B pre (M - q) at2) = T) ∧ Below w.heap.size w wr)
          (fun _ _ _ ii _ => N - (intOf ii).toNat)
        case atStart => exact ⟨1, 0, a2, 0, 1, none, some ⟨g3, 0, none⟩, [], [], [((kx : Int), (ky : Int))], hideIt rfl, by omega, by omega, a2l, rfl, rfl, rfl, rfl, OM.nil _ _, K4, HR, b4⟩
        case round =>
          clear HR K4 ea2 a2l b4 z3
          obtain ⟨i, q, at2, c3, c4, A3, A4, ps, ls, ks, HI, hq, hi, hat, rfl, rfl, rfl, rfl, om, gk, HR, bw⟩ := hrel
          have iq := HI.out
          have NM := HM.out
          by_cases hlt : i < N
          · obtain ⟨f, hf⟩ : ∃ f, M - q = f + 1 := ⟨M - q - 1, by omega⟩
            have HF := hideIt hf
            have hfq : M - (q + 1) = f := by omega
            have HFQ := hideIt hfq
            have q6 : q ≤ 65535 := by omega
            have h5 := hB.below bw
            obtain ⟨L5, h55⟩ : ∃ L5, least3 (B.drop at2) 3 0 0 = L5 := ⟨_, rfl⟩
            have LC := fun W q => least_of (at2 : Int) (some ad) 4092 c B at2 L5 W q rfl (by omega) (by decide) h55
            have H55 := hideIt h55
            have i0 : (i : Int) < (N : Int) := by omega
            clear h55 hf hfq iq NM
            rcases L5 with _ | ⟨s, q5⟩
            · have R0 : Hid (T = none) := hideIt (by rw [← HR.out, HF.out, sepsR_none H55.out]; rfl)
              simp only [LO2] at LC
              clear HR om gk
              go_wp2_with (go_at_call 72; refine (LC _ h5).mono ?_; rintro en w5 ⟨rfl, x5⟩; have b5 := blw_step bw x5)
              (try simp only [Exit.inBlock, Exit.then]); refine bodyPost_ret (results_four rfl _ _ _) rfl ?_
              exact ReadOut.no R0.out b5
            · obtain ⟨nx, hnx⟩ : ∃ nx, at2 + q5 = nx := ⟨_, rfl⟩
              obtain ⟨g1', g2', g3', g4'⟩ := leastS_le (least_some H55.out)
              rw [hnx] at g2' g3' g4'
              rw [show (LO2 (some (s, q5)) at2).1 = (s : Int) from rfl, show (LO2 (some (s, q5)) at2).2 = (nx : Int) by rw [← hnx]; rfl] at LC
              have hnl : nx ≤ 4092 := by rw [← HL.out]; exact g3'
              have t1 : decide ((nx : Int) < 0) = false := decide_eq_false (by omega)
              have HNX := hideIt hnx
              clear hnx g2' g3' g4'
              go_upto_region 15 with (go_at_call 72; refine (LC _ h5).mono ?_; rintro en w5 ⟨rfl, x5⟩)
              have b5 := blw_step bw x5
              have h6 := h5.below x5
              have om5 := om.below x5
              have gk5 : GK w5 w.heap.size A4 i c4 ks := GC.below gk x5
              have HLO := hideIt om.lt
              have zr := bw.size
              clear LC h5 om gk
              by_cases hfit : nx + s + 8 ≤ 4092
              · have t2 : decide ((4092 : Int) < (nx : Int) + (s : Int) + 8) = false := decide_eq_false (by omega)
                go_upto_region 17 with fail
                obtain ⟨sx, hsx⟩ : ∃ sx, (B.drop nx).take s = sx := ⟨_, rfl⟩
                have cutB := hB.cut (A' := some (ad.add nx)) nx (nx + s) c (by omega) (by omega) (by omega) (Nat.le_refl _) (fun _ => rfl) (fun e => by cases e)
                have ex : nx + s - nx = s := by omega
                rw [ex, hsx] at cutB
                have i1 : (nx : Int) + (s : Int) ≤ (c : Int) := by omega
                have i2 : (nx : Int) ≤ (nx : Int) + (s : Int) := by omega
                have HSX := hideIt hsx
                clear hsx
                have i4 : ((nx : Int) + (s : Int)).toNat = nx + s := by omega
                have i3 : IntKind.i64.wrap ((nx : Int) + (s : Int)) = (nx : Int) + (s : Int) := IntWalk.i64_in _ (by omega)
                have b5d : Below w.heap.size w w5.drew := b5.drew
                have P5 := cut.below b5d
                have om5d := om5.below (drew1 w5)
                have gk5d : GK w5.drew w.heap.size A4 i c4 ks := GC.below gk5 (drew1 w5)
                have zz : wr.heap.size ≤ w5.drew.heap.size := Nat.le_trans x5.size (drew1 w5).size
                clear om5 gk5 b5
                go_region_held3 (fun _ => True) (trivial)
                  (first
                    | (go_at_call 33; (with_reducible refine (Bytes_calls _ _ _ _ _ P5 (by omega)).mono ?_); rintro en w6 ⟨g6, m6, rfl, s6, o6, x6⟩; have c6 := cutB.below (blw_step b5d x6))
                    | (refine stepB_app rfl (.tmp 102) (.tmp 108) rfl _ _ _ _ rfl o6 _ _ _ _ rfl c6 (x + s) rfl (by omega) ?_; intro g7 m7 w7 q7 o7))
                have s67 : wr.heap.size ≤ g7 ∧ Below w5.drew.heap.size w5.drew w7 := by
                  rcases q7 with ⟨rfl, k7⟩ | ⟨rfl, k7⟩
                  · exact ⟨Nat.le_trans zz s6, blw_own x6 k7 x6.size s6⟩
                  · exact ⟨Nat.le_trans zz x6.size, x6.trans (below_of_grown k7 x6.size (by simp))⟩
                obtain ⟨s7, x7⟩ := s67
                have om7 := om5d.below x7
                have gk7 : GK w7 w.heap.size A4 i c4 ks := GC.below gk5d x7
                have S7 : GB w7 wr.heap.size (some ⟨g7, 0, none⟩) (x + s) m7 (pre ++ sx) := GB.of o7 s7
                have b7 := blw_step b5d x7
                clear q7 o6 x6 c6 P5 cutB om5d gk5d b5d o7 ex i3 i4 s6 zz x5 x7 bw
                have ba := below1 w7 (.cells #[.slice (some ⟨g7, 0, none⟩) (x + s) m7] 28)
                have R8 := sv_cell w7 (some ⟨g7, 0, none⟩, x + s, m7)
                have om8 := om7.below ba
                have gk8 : GK _ w.heap.size A4 i c4 ks := GC.below gk7 ba
                have S8 := GB.below S7 ba
                have b8 := blw_step b7 ba
                clear om7 gk7 S7 ba b7
                go_upto_region 19 with (with_reducible refine wpM_app rfl (.tmp 110) (.tmp 112) rfl w.heap.size _ _ _ _ rfl om8.row _ (some ⟨g7, 0, none⟩, x + s, m7) rfl R8 (by omega) b8.size ?_; intro g9 c9 w9 q9 o9 k9)
                have om9 := om8.push S8 HLO.out zr k9 o9 q9
                have gk9 : GK w9 w.heap.size A4 i c4 ks := GC.apart gk8 om8.row k9 (by decide)
                have b9 := GC.under om8.row b8 k9 b8.size
                have h9 := hB.below b9
                clear om8 gk8 S8 b8 R8 o9 k9 HLO
                obtain ⟨a3, ha3⟩ : ∃ a3, nx + s = a3 := ⟨_, rfl⟩
                have ea3 : (nx : Int) + (s : Int) = (a3 : Int) := by omega
                obtain ⟨px, hpx⟩ : ∃ px, numR B a3 = px := ⟨_, rfl⟩
                obtain ⟨py, hpy⟩ : ∃ py, numR B (a3 + 4) = py := ⟨_, rfl⟩
                have N1 := fun W q => number_of (a3 : Int) (some ad) 4092 c B a3 px W q rfl (by omega) (by omega) hpx
                have N2 := fun W q => number_of ((a3 : Int) + 4) (some ad) 4092 c B (a3 + 4) py W q (by omega) (by omega) (by omega) hpy
                have HK : Hid (kidR B a3 = ((px : Int), (py : Int))) := hideIt (by unfold kidR; rw [hpx, hpy])
                have al3 : a3 + 8 ≤ 4092 := by omega
                have HA3 := hideIt ha3
                have HN : Hid (mapT (b1 : Int) (ls ++ [pre ++ sx]) (ks ++ [((px : Int), (py : Int))]) (sepsR B pre (M - (q + 1)) (a3 + 8)) = T) := hideIt (by
                  rw [← HR.out, HF.out, sepsR_step H55.out HNX.out (by rw [HL.out]; exact hfit), HFQ.out, HA3.out, HSX.out, HK.out]
                  unfold mapT
                  rw [Option.map_map]
                  congr 1
                  funext z
                  simp)
                clear hpx hpy ha3 i1 i2 t1 t2 HR hfit
                go_upto_region 20 with fail
                go_upto_region 21 with (first
                  | (with_reducible refine wpK_app rfl (.tmp 117) (.tmp 126) rfl w.heap.size _ _ _ _ rfl gkc _ ((px : Int), (py : Int)) rfl Rc (by omega) bc.size ?_; intro gd cd wd qd od kd)
                  | (go_at_call 73; (with_reducible refine (N2 _ ha).mono ?_); rintro en wb ⟨rfl, jb, eb⟩; have xb := below_at (below_drewN (Below.refl wa.heap.size wa) jb) eb; have omb := oma.below xb; have gkb := GC.below gka xb; have bb := blw_step ba xb; have bk := below1 wb (.cells #[.int .i64 (px : Int), .int .i64 (py : Int)] 37); have omc := omb.below bk; have gkc : GK _ w.heap.size A4 i c4 ks := GC.below gkb bk; have bc := blw_step bb bk; have Rc := RK.one wb (px : Int) (py : Int); clear eb)
                  | (go_at_call 73; (with_reducible refine (N1 _ h9).mono ?_); rintro en wa ⟨rfl, ja, ea⟩; have xa := below_at (below_drewN (Below.refl w9.heap.size w9) ja) ea; have ha := h9.below xa; have oma := om9.below xa; have gka := GC.below gk9 xa; have ba := blw_step b9 xa; clear ea))
                have omd := omc.apart gkc kd (by decide) (by decide)
                have bd := GC.under gkc bc kd bc.size
                clear om9 gk9 h9 b9 oma gka ha ba omb gkb bb bk omc gkc bc Rc kd N1 N2 ea3 xa xb
                have HI2 : Hid (i + 1 = q + 1 + 1) := hideIt (by have := HI.out; omega)
                have qm : q + 1 ≤ M := by have := HI.out; have := HM.out; omega
                go_wp2
                go_roundw
                case rel => exact ⟨i + 1, q + 1, a3 + 8, _, _, _, _, _, _, _, HI2, qm, by omega, by omega, by go_num, rfl, rfl, by go_num, omd, od, HN, bd⟩
                case measure => simp [intOf]; omega
              · have t2 : decide ((4092 : Int) < (nx : Int) + (s : Int) + 8) = true := decide_eq_true (by omega)
                have R0 : Hid (T = none) := hideIt (by rw [← HR.out, HF.out, sepsR_no H55.out HNX.out (by rw [HL.out]; exact hfit)]; rfl)
                clear hfit HR om5 gk5
                go_wp2
                (try simp only [Exit.inBlock, Exit.then]); refine bodyPost_ret (results_four rfl _ _ _) rfl ?_
                exact ReadOut.no R0.out b5
          · obtain rfl : i = N := by omega
            obtain rfl : q = M := by omega
            have R0 : Hid (T = some ((b1 : Int), ls, ks)) := hideIt (by
              rw [← HR.out, Nat.sub_self]; unfold mapT sepsR; simp)
            clear HR iq NM
            go_wp2
            (try simp only [Exit.inBlock, Exit.then]); refine bodyPost_ret (results_four rfl _ _ _) rfl ?_
            rw [R0.out]
            exact ⟨_, _, _, ps, _, _, _, rfl, om, gk, bw⟩
      · have R0 : Hid (T = none) := hideIt (by
          rw [← HT0.out]; unfold readR; rw [least_some H33.out]; simp only
          rw [HA0.out, if_neg (by rw [HNN.out, hM, HL.out]; exact fun z => hfit z.2)])
        have t3 : decide ((4092 : Int) < (a0 : Int) + (x : Int) + 2 * (M : Int) + 8) = true := decide_eq_true (by omega)
        clear hN0 hfit hM HM
        go_wp2
        (try simp only [Exit.inBlock, Exit.then]); refine bodyPost_ret (results_four rfl _ _ _) rfl ?_
        exact ReadOut.no R0.out b1'
end Go.Proofs.Ythboanaogfmefaa
