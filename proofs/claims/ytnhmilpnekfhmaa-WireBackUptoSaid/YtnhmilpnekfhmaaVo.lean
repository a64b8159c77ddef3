/- The walk of the law WireBack. -/
import Derived.Test.YtnhmilpnekfhmaaVn
import Derived.Test.YtnhmilpnekfhmaaNb
import Derived.Test.YtnhmilpnekfhmaaOpenO
namespace Go.Proofs.Ytnhmilpnekfhmaa
open Go.RowKit

theorem NumsAt.front {w : World} {A : Option Addr} {n c : Nat} {l : List (Nat × Int)} (h : NumsAt w A n c l) (m : Nat) (hm : m ≤ n) : NumsAt w A m c (l.take m) :=
  ⟨by rw [List.length_take, h.len]; omega, by have := h.le; omega, h.mx, fun i hi => by
    obtain ⟨ad, x, k, e, e2, h0, h1, h3⟩ := h.cell i (by omega)
    exact ⟨ad, x, k, e, by rw [List.getElem?_take, if_pos hi]; exact e2, h0, h1, h3⟩⟩
theorem GC.grown_ne {w w' : World} {base e sz n c r : Nat} {A : Option Addr} {cs : List Value} (h : GC w base e sz A n c cs) (gx : w.grownBy w' (some r)) (ne : ∀ ad, A = some ad → ad.block ≠ r) : GC w' base e sz A n c cs := by
  rcases h.oc with ⟨rfl, rfl, rfl, rfl⟩ | ⟨g, rfl, hb, o⟩
  · exact GC.nil _ _ _ _
  · exact GC.of (o.same (Sm.of_grown gx o.lt (by simpa using ne _ rfl))) hb
theorem quiet_drewN1 {P : Program} {f : FuncId} {args : Array Value} {w : World} {m : Nat} {v : Value} (h : Calls P f args (w.drewN m) fun e w' => e = .returned v ∧ ∃ j, w' = (w.drewN m).drewN j) :
    Calls P f args (w.drewN m) fun e w' => e = .returned v ∧ ∃ j, w' = w.drewN j :=
  h.mono fun _ _ ⟨a, j, b⟩ => ⟨a, m + j, by rw [b, World.drewN_drewN]⟩
theorem vlen_quiet (x : Nat) (w : World) (m : Nat) (hxx : Hid (x < 18446744073709551616)) :
    Calls Try.prog 18 #[.int .u64 (x : Int)] (w.drewN m) fun e w' => e = .returned (.int .i64 ((vF 9 x).length : Nat)) ∧ w' = w.drewN m :=
  (VLen_calls x _ hxx.out).mono fun _ _ ⟨h1, h2⟩ => ⟨h1, h2.symm⟩

set_option maxRecDepth 100000 in
set_option maxHeartbeats 16000000 in
theorem WireBack_walk (A : Option Addr) (n c : Nat) (l : List (Nat × Int)) (cut : Int) (w : World)
    (h : NumsAt w A n c l) (_yc : -9223372036854775808 ≤ cut ∧ cut ≤ 9223372036854775807) :
    Calls Try.prog 6 #[.slice A n c, .int .i64 cut] w fun e w' => e = .returned (.bool true) ∧ Below w.heap.size w w' := by
  have hle := h.le
  have hmx : c ≤ 9223372036854775807 := by have h2 := h.mx; rw [maxLen_is] at h2; omega
  have inc : (n : Int) ≤ (c : Int) := by omega
  go_enter Try.func6, Try.ntmps6
  go_upto_region 4 with (go_at_call 10; refine (first_calls _).mono ?_; rintro e w1 ⟨rfl, b1⟩)
  go_upto_if 23 with (fail)
  go_cut [0] from 24 to 25 (fun v wx => ∃ (N : Nat) (l' : List (Nat × Int)), v = .slice A N c ∧ N ≤ 500 ∧ NumsAt w A N c l' ∧ wx = w1)
  case first =>
    by_cases hbig : 500 < n
    · have f := h.front 500 (by omega)
      have i1 : (500 : Int) < (n : Int) := by omega
      have i2 : (500 : Int) ≤ (c : Int) := by omega
      have F := hideIt f
      clear f
      go_wp2_with fail
      go_meet
      exact ⟨500, _, rfl, by omega, F.out, rfl⟩
    · have i1 : ¬ (500 : Int) < (n : Int) := by omega
      have F := hideIt h
      go_wp2_with fail
      go_meet
      exact ⟨n, _, rfl, by omega, F.out, rfl⟩
  case rest =>
  obtain ⟨N, l', rfl, hN, hL, rfl⟩ := hcut
  clear h hle inc
  have hw := b1.size
  have hlen := hideIt hL.len
  have hNc := hL.le
  go_wp2
  go_loopw [6, 7, 8] (fun v6 v7 ii wr => ∃ (i m6 c6 c7 : Nat) (A6 A7 : Option Addr), i ≤ N ∧ ii = .int .i64 (i : Int) ∧ v6 = .slice A6 m6 c6 ∧ v7 = .slice A7 i c7 ∧ GC wr w.heap.size 5 1 A6 m6 c6 (u8s (catS (l'.take i))) ∧ GC wr w.heap.size 3 1 A7 i c7 (i64s (endsS l' i)) ∧ Below w.heap.size w wr)
    (fun _ _ ii _ => N - (intOf ii).toNat)
  case atStart => exact ⟨0, 0, 0, 0, none, none, by omega, rfl, rfl, rfl, GC.nil _ _ _ _, GC.nil _ _ _ _, b1⟩
  case round =>
    obtain ⟨i, m6, c6, c7, A6, A7, hi, rfl, rfl, rfl, G6, G7, b⟩ := hrel
    have r6 : RB wr A6 m6 c6 (catS (l'.take i)) := G6.read
    have le6 : m6 ≤ 10 * i := by have := posS_le l' i; rw [← r6.len]; exact this
    by_cases hlt : i < N
    · obtain ⟨ad, x, k, rfl, hx, cX, cW', hx64, _⟩ := (hL.below b).cell i hlt
      have cW : wr.cell? ⟨(ad.add (i * 2)).block, (ad.add (i * 2)).off + 1, none⟩ = some (.int .i64 k) := by simpa only [Addr.add_succ'] using cW'
      have HX := hideIt hx64
      have f5 := wide_five k
      have hcat := hideIt (catS_succ hx)
      have i1 : (i : Int) < (N : Int) := by omega
      clear hx64 cW'
      have G := fun (W : World) (q : RB W A6 m6 c6 (catS (l'.take i))) => put_calls A6 m6 c6 _ x (wideS k) W q (by omega) HX.out f5
      have hp : putS x (wideS k) = putL (x, k) := rfl
      rw [hp] at G
      have bd := drew1 wr
      have r6d : RB wr.drew A6 m6 c6 (catS (l'.take i)) := RB.below r6 bd
      have G6d := G6.below bd
      have G7d := G7.below bd
      have bdd := b.trans (bd.mono b.size)
      have cXd : wr.drew.cell? (ad.add (i * 2)) = some (.int .u64 (x : Int)) := cX
      have cWd : wr.drew.cell? ⟨(ad.add (i * 2)).block, (ad.add (i * 2)).off + 1, none⟩ = some (.int .i64 k) := cW
      go_upto_region 11 with fail
      go_region_held3 (fun w' => w'.cell? (ad.add (i * 2)) = some (.int .u64 (x : Int)) ∧ w'.cell? ⟨(ad.add (i * 2)).block, (ad.add (i * 2)).off + 1, none⟩ = some (.int .i64 k))
        (first | exact ⟨k0, k1⟩ | go_keep)
        (first
          | (go_at_call 19; refine (G _ r6d).mono ?_; rintro en w2 ⟨g2, m2, c2, rfl, s2, o2, b2⟩; have k0 := cell_blk cXd b2; have k1 := cell_blk cWd b2)
          | (go_at_call 20; refine (wide_calls k _).mono ?_; rintro en wx ⟨rfl, rfl⟩))
      all_goals
        rw [← hcat.out] at o2
        have M2E := hideIt (show posS l' (i + 1) = m2 from o2.len)
        have m2le : m2 ≤ 10 * (i + 1) := by have := posS_le l' (i + 1); rw [M2E.out] at this; exact this
        have z2 := b2.size
        have bd2 := bdd.trans (b2.mono bdd.size)
        have lw : w.heap.size ≤ g2 := Nat.le_trans bdd.size s2
        have G6n := GC.of o2 lw
        have G7n := G7d.below b2
        clear G6 G7 r6 r6d G6d G7d b cX cW cXd cWd k0 k1 G hcat b2 bdd bd
        have ba := below1 w2 (.cells #[.int .i64 (m2 : Int)] 3)
        have G6a := G6n.below ba
        have G7a := G7n.below ba
        have b3 := bd2.trans (ba.mono bd2.size)
        have R1 := RI.one w2 (m2 : Int)
        go_wp2_with (with_reducible refine wpI_app rfl (.tmp 45) (.tmp 48) rfl w.heap.size _ _ _ _ rfl G7a _ _ _ _ rfl R1 (by decide) (by omega) b3.size ?_; intro g8 c8 w8 q8 o8 k8)
        have es := endsS_succ l' i
        rw [M2E.out] at es
        rw [← es] at o8
        have b8 := G7a.under b3 k8 b3.size
        go_roundw
        case rel => exact ⟨i + 1, m2, c2, c8, _, _, by omega, by go_num, rfl, rfl, G6a.apart G7a k8 (by decide), GC.of o8 q8, b8⟩
        case measure => simp [intOf]; omega
    · obtain rfl : N = i := by omega
      have eB : l'.take N = l' := List.take_of_length_le (by rw [hlen.out]; exact Nat.le_refl _)
      rw [eB] at G6 r6
      have M6 := hideIt (show (catS l').length = m6 from r6.len)
      have m6c := G6.read.le
      have m6x : c6 ≤ 9223372036854775807 := by have := G6.read.mx; rw [maxLen_is] at this; exact this
      obtain ⟨r0, q, p1, p2, p3, p4, p5⟩ := place cut (m6 + 1) (by omega)
      have ec : ((m6 + 1 : Nat) : Int) = (m6 : Int) + 1 := by omega
      rw [ec] at p1 p2 p3 p4
      have p6 : (r0 + (m6 : Int) + 1) % ((m6 : Int) + 1) = (q : Int) := by rw [show r0 + (m6 : Int) + 1 = r0 + ((m6 : Int) + 1) by omega, Int.add_emod_right]; exact p4
      have p7 : 0 ≤ r0 + (m6 : Int) + 1 := by omega
      have qle : q ≤ m6 := by omega
      have rq := r6.take q qle
      have qc : (q : Int) ≤ (c6 : Int) := by omega
      have lt7 : ∀ ad, A7 = some ad → ad.block < wr.heap.size := by
        intro ad e
        rcases G7.oc with ⟨z, _⟩ | ⟨g, z, _, o⟩
        · rw [z] at e; cases e
        · rw [z] at e; cases e; exact o.lt
      have LT7 := hideIt lt7
      clear ec G6 r6 m6c p5 lt7 eB
      go_upto_region 16 with (go_at_call 14; refine (NewReader_calls _ _ _ _ _ rq (by omega)).mono ?_; rintro e w3 ⟨r, rfl, s3, d3, y3⟩)
      have b3 := b.trans (y3.mono b.size)
      have G7 := G7.below y3
      have rlo := Nat.le_trans b.size s3
      have NE7 : Hid (∀ ad, A7 = some ad → ad.block ≠ r) := hideIt (fun ad e => by have := LT7.out ad e; omega)
      clear p1 p2 p3 p4 p6 p7 LT7 y3 s3 b rq
      go_wp2
      go_loopw [11, 12] (fun ff ii wr => ∃ (j P0 : Nat), j ≤ N ∧ ff = .int .i64 (P0 : Int) ∧ ii = .int .i64 (j : Int) ∧ Hid (posS l' j = P0) ∧ P0 ≤ q ∧ Rd wr r ((catS l').take q) P0 0 ∧ GC wr w.heap.size 3 1 A7 N c7 (i64s (endsS l' N)) ∧ Below w.heap.size w wr)
        (fun _ ii _ => N - (intOf ii).toNat)
      case atStart => exact ⟨0, 0, by omega, rfl, rfl, hideIt (by simp [posS, catS]), by omega, d3, G7, b3⟩
      case round =>
        clear d3 G7 b3
        obtain ⟨j, P0, hj, rfl, rfl, HP, hPq, R, G7, b⟩ := hrel
        by_cases hlt : j < N
        · obtain ⟨ad, x, k, rfl, hx, cX, cW', hx64, _⟩ := (hL.below b).cell j hlt
          have cW : wr.cell? ⟨(ad.add (j * 2)).block, (ad.add (j * 2)).off + 1, none⟩ = some (.int .i64 k) := by simpa only [Addr.add_succ'] using cW'
          have rI : RI wr A7 N c7 (endsS l' N) := G7.read
          obtain ⟨ad7, rfl, cE⟩ := rI.at_ j (by rw [endsS_length]; exact hlt)
          rw [endsS_get] at cE
          obtain ⟨E, hE⟩ : ∃ E, posS l' (j + 1) = E := ⟨_, rfl⟩
          rw [hE] at cE
          have hs := posS_succ hx
          have hEm : E ≤ m6 := by rw [← hE, ← M6.out, ← posS_all, hlen.out]; exact posS_mono l' _ _ (by omega)
          have HX := hideIt hx64
          have qB : q ≤ (catS l').length := by rw [M6.out]; exact qle
          have W := fun W => wide_calls k W
          have f5 := wide_five k
          have i1 : (j : Int) < (N : Int) := by omega
          have hL1 : ∀ u, wideS k = u → (putL (x, k)).length = if u = 0 then (vF 9 x).length else u := by intro u hu; unfold putL; rw [hu]; exact putS_length x u
          rw [hE, HP.out] at hs
          have HE := hideIt hE
          have GG : getS ((catS l').take q) P0 0 (wideS k) = if E ≤ q then (wantS x (wideS k), E, 0) else (0, P0, 10) := by
            rw [← HP.out]
            by_cases hc : E ≤ q
            · rw [if_pos hc, ← HE.out]; exact get_whole hx q (by rw [HE.out]; exact hc) qB hx64
            · rw [if_neg hc]; exact get_short hx q (by rw [HE.out]; omega) (by rw [HP.out]; exact hPq) qB hx64
          have G := fun W q0 => get_calls r ((catS l').take q) P0 0 (wideS k) W q0 f5
          have vp := (vF_length 9 x)
          have HXL := hideIt hx
          clear hx64 cW' hE rI hx
          generalize wideS k = u at W f5 GG G hL1
          have hL2 := hL1 u rfl
          rw [hL2] at hs
          clear hL1 hL2
          have NEd : ad7.block ≠ r := NE7.out ad7 rfl
          rcases f5 with rfl | rfl | rfl | rfl | rfl
          · rw [if_pos rfl] at hs
            obtain ⟨V, hV⟩ : ∃ V, (vF 9 x).length = V := ⟨_, rfl⟩
            rw [hV] at hs vp
            have VQ := fun W m => vlen_quiet x W m HX
            rw [hV] at VQ
            have t2 : ((E : Int) != (P0 : Int) + (V : Int)) = false := by rw [bne_eq_false_iff_eq]; omega
            have t2' : (E : Int) = (P0 : Int) + (V : Int) := by omega
            have vb : V ≤ 10 := vp.2
            clear hV t2'
            have t1 : decide (E ≤ P0) = false := decide_eq_false (by omega)
            have t1' : decide ((E : Int) ≤ (P0 : Int)) = false := decide_eq_false (by omega)
            have pb : P0 ≤ 5000 := by omega
            have eb : E ≤ 5000 := by omega
            clear hs vp
            by_cases hc : E ≤ q
            · rw [if_pos hc] at GG
              have hy : wantS x 0 = x := by unfold wantS; rw [if_pos rfl]
              rw [hy] at GG
              clear hy
              rw [GG] at G
              simp only at G
              clear GG
              have c1 : (E : Int) ≤ (q : Int) := by omega
              go_upto_region 23 with (first
                | (go_at_call 20; refine (W _).mono ?_; rintro en wx ⟨rfl, rfl⟩))
              go_quiet (first | (go_at_call 18; exact Calls.quiet_of_same (VQ _ _)))
              have b5 := below_drewN b nq
              have G75 := G7.below (below_drewN (Below.refl _ _) nq)
              have R5 := R.drewN nq
              clear b G7 R cE cX cW
              generalize wr.drewN nq = w5 at *
              go_upto_region 26 with (go_at_call 21; refine (G _ R5).mono ?_; rintro en w6 ⟨rfl, r6, g6⟩)
              have b6 : Below w.heap.size w w6 := b5.trans (below_of_grown g6 b5.size (by intro k hk; cases hk; exact rlo))
              have G76 := G75.grown_ne g6 NE7.out
              clear b5 G75 R5 g6 G
              have EC := Err_calls r ((catS l').take q) E 0 w6 r6
              go_upto_region 27 with (go_at_call 22; refine EC.mono ?_; rintro en w7 ⟨rfl, j7, rfl⟩)
              have r7 := r6.drewN j7
              have b7 := below_drewN b6 j7
              have G77 := G76.below (below_drewN (Below.refl _ _) j7)
              clear EC r6 b6 G76
              generalize w6.drewN j7 = w7 at *
              obtain ⟨ad', x', k', e1, e2, cX7, _, _, _⟩ := (hL.below b7).cell j hlt
              cases e1
              rw [HXL.out] at e2
              cases e2
              have rI7 : RI w7 (some ad7) N c7 (endsS l' N) := G77.read
              obtain ⟨ad8, e8, cE7⟩ := rI7.at_ j (by rw [endsS_length]; exact hlt)
              cases e8
              rw [endsS_get, HE.out] at cE7
              clear rI7
              have LC := left_cut (catS l') q E qB
              obtain ⟨Lf, hLf⟩ : ∃ Lf, leftS ((catS l').take q) E 0 = Lf := ⟨_, rfl⟩
              have LQ := fun m => quiet_drewN1 (m := m) (Left_calls r ((catS l').take q) E 0 (w7.drewN m) (r7.drewN m))
              rw [hLf] at LC LQ
              have t3 : ((Lf : Int) != (q : Int) - (E : Int)) = false := by rw [bne_eq_false_iff_eq]; omega
              clear hLf LC
              go_upto_region 32 with fail
              go_quiet (first
                | (go_at_call 23; exact Calls.quiet_of_same (num_quiet _ _ _))
                | (go_at_call 24; exact LQ _))
              go_wp2
              go_roundw
              case rel => exact ⟨j + 1, E, by omega, rfl, by go_num, HE, hc, r7.drewN _, G77.below (below_drewN (Below.refl _ _) _), below_drewN b7 _⟩
              case measure => simp [intOf]; omega
            · rw [if_neg hc] at GG
              rw [GG] at G
              simp only at G
              clear GG
              have c1 : (q : Int) < (E : Int) := by omega
              go_upto_region 23 with (first
                | (go_at_call 20; refine (W _).mono ?_; rintro en wx ⟨rfl, rfl⟩))
              go_quiet (first | (go_at_call 18; exact Calls.quiet_of_same (VQ _ _)))
              have b5 := below_drewN b nq
              have G75 := G7.below (below_drewN (Below.refl _ _) nq)
              have R5 := R.drewN nq
              clear b G7 R cE cX cW
              generalize wr.drewN nq = w5 at *
              go_upto_region 26 with (go_at_call 21; refine (G _ R5).mono ?_; rintro en w6 ⟨rfl, r6, g6⟩)
              have b6 : Below w.heap.size w w6 := b5.trans (below_of_grown g6 b5.size (by intro k hk; cases hk; exact rlo))
              have G76 := G75.grown_ne g6 NE7.out
              clear b5 G75 R5 g6 G
              have EC := Err_calls r ((catS l').take q) P0 10 w6 r6
              go_upto_region 27 with (go_at_call 22; refine EC.mono ?_; rintro en w7 ⟨rfl, j7, rfl⟩)
              have r7 := r6.drewN j7
              have b7 := below_drewN b6 j7
              have G77 := G76.below (below_drewN (Below.refl _ _) j7)
              clear EC r6 b6 G76
              generalize w6.drewN j7 = w7 at *
              obtain ⟨ad', x', k', e1, e2, cX7, _, _, _⟩ := (hL.below b7).cell j hlt
              cases e1
              rw [HXL.out] at e2
              cases e2
              have rI7 : RI w7 (some ad7) N c7 (endsS l' N) := G77.read
              obtain ⟨ad8, e8, cE7⟩ := rI7.at_ j (by rw [endsS_length]; exact hlt)
              cases e8
              rw [endsS_get, HE.out] at cE7
              clear rI7
              have LC := Left_calls r ((catS l').take q) P0 10 w7 r7
              rw [leftS_broken _ _ _ (by decide)] at LC
              go_wp2_with (first
                | (go_at_call 23; refine (num_calls _ _).mono ?_; rintro en wx ⟨rfl, rfl⟩)
                | (go_at_call 24; refine LC.mono ?_; rintro en w8 ⟨rfl, j8, rfl⟩))
              go_ret
              exact ⟨rfl, below_drewN b7 j8⟩
          · rw [if_neg (by decide)] at hs
            have t2 : ((E : Int) != (P0 : Int) + 1) = false := by rw [bne_eq_false_iff_eq]; omega
            have t1 : decide (E ≤ P0) = false := decide_eq_false (by omega)
            have t1' : decide ((E : Int) ≤ (P0 : Int)) = false := decide_eq_false (by omega)
            have pb : P0 ≤ 5000 := by omega
            have eb : E ≤ 5000 := by omega
            clear hs vp
            by_cases hc : E ≤ q
            · rw [if_pos hc] at GG
              obtain ⟨y, hy⟩ : ∃ y, wantS x 1 = y := ⟨_, rfl⟩
              have hy2 : (x : Int) % 256 = (y : Int) := by rw [← hy]; unfold wantS; rw [if_neg (by decide), show 256 ^ 1 = 256 from rfl]; omega
              rw [hy] at GG
              clear hy
              rw [GG] at G
              simp only at G
              clear GG
              have c1 : (E : Int) ≤ (q : Int) := by omega
              go_upto_region 23 with (first
                | (go_at_call 20; refine (W _).mono ?_; rintro en wx ⟨rfl, rfl⟩))
              go_quiet (fail)
              have b5 := below_drewN b nq
              have G75 := G7.below (below_drewN (Below.refl _ _) nq)
              have R5 := R.drewN nq
              clear b G7 R cE cX cW
              generalize wr.drewN nq = w5 at *
              go_upto_region 26 with (go_at_call 21; refine (G _ R5).mono ?_; rintro en w6 ⟨rfl, r6, g6⟩)
              have b6 : Below w.heap.size w w6 := b5.trans (below_of_grown g6 b5.size (by intro k hk; cases hk; exact rlo))
              have G76 := G75.grown_ne g6 NE7.out
              clear b5 G75 R5 g6 G
              have EC := Err_calls r ((catS l').take q) E 0 w6 r6
              go_upto_region 27 with (go_at_call 22; refine EC.mono ?_; rintro en w7 ⟨rfl, j7, rfl⟩)
              have r7 := r6.drewN j7
              have b7 := below_drewN b6 j7
              have G77 := G76.below (below_drewN (Below.refl _ _) j7)
              clear EC r6 b6 G76
              generalize w6.drewN j7 = w7 at *
              obtain ⟨ad', x', k', e1, e2, cX7, _, _, _⟩ := (hL.below b7).cell j hlt
              cases e1
              rw [HXL.out] at e2
              cases e2
              have rI7 : RI w7 (some ad7) N c7 (endsS l' N) := G77.read
              obtain ⟨ad8, e8, cE7⟩ := rI7.at_ j (by rw [endsS_length]; exact hlt)
              cases e8
              rw [endsS_get, HE.out] at cE7
              clear rI7
              have LC := left_cut (catS l') q E qB
              obtain ⟨Lf, hLf⟩ : ∃ Lf, leftS ((catS l').take q) E 0 = Lf := ⟨_, rfl⟩
              have LQ := fun m => quiet_drewN1 (m := m) (Left_calls r ((catS l').take q) E 0 (w7.drewN m) (r7.drewN m))
              rw [hLf] at LC LQ
              have t3 : ((Lf : Int) != (q : Int) - (E : Int)) = false := by rw [bne_eq_false_iff_eq]; omega
              clear hLf LC
              go_upto_region 32 with fail
              go_quiet (first
                | (go_at_call 23; exact Calls.quiet_of_same (num_quiet _ _ _))
                | (go_at_call 24; exact LQ _))
              go_wp2
              go_roundw
              case rel => exact ⟨j + 1, E, by omega, rfl, by go_num, HE, hc, r7.drewN _, G77.below (below_drewN (Below.refl _ _) _), below_drewN b7 _⟩
              case measure => simp [intOf]; omega
            · rw [if_neg hc] at GG
              rw [GG] at G
              simp only at G
              clear GG
              have c1 : (q : Int) < (E : Int) := by omega
              go_upto_region 23 with (first
                | (go_at_call 20; refine (W _).mono ?_; rintro en wx ⟨rfl, rfl⟩))
              go_quiet (fail)
              have b5 := below_drewN b nq
              have G75 := G7.below (below_drewN (Below.refl _ _) nq)
              have R5 := R.drewN nq
              clear b G7 R cE cX cW
              generalize wr.drewN nq = w5 at *
              go_upto_region 26 with (go_at_call 21; refine (G _ R5).mono ?_; rintro en w6 ⟨rfl, r6, g6⟩)
              have b6 : Below w.heap.size w w6 := b5.trans (below_of_grown g6 b5.size (by intro k hk; cases hk; exact rlo))
              have G76 := G75.grown_ne g6 NE7.out
              clear b5 G75 R5 g6 G
              have EC := Err_calls r ((catS l').take q) P0 10 w6 r6
              go_upto_region 27 with (go_at_call 22; refine EC.mono ?_; rintro en w7 ⟨rfl, j7, rfl⟩)
              have r7 := r6.drewN j7
              have b7 := below_drewN b6 j7
              have G77 := G76.below (below_drewN (Below.refl _ _) j7)
              clear EC r6 b6 G76
              generalize w6.drewN j7 = w7 at *
              obtain ⟨ad', x', k', e1, e2, cX7, _, _, _⟩ := (hL.below b7).cell j hlt
              cases e1
              rw [HXL.out] at e2
              cases e2
              have rI7 : RI w7 (some ad7) N c7 (endsS l' N) := G77.read
              obtain ⟨ad8, e8, cE7⟩ := rI7.at_ j (by rw [endsS_length]; exact hlt)
              cases e8
              rw [endsS_get, HE.out] at cE7
              clear rI7
              have LC := Left_calls r ((catS l').take q) P0 10 w7 r7
              rw [leftS_broken _ _ _ (by decide)] at LC
              go_wp2_with (first
                | (go_at_call 23; refine (num_calls _ _).mono ?_; rintro en wx ⟨rfl, rfl⟩)
                | (go_at_call 24; refine LC.mono ?_; rintro en w8 ⟨rfl, j8, rfl⟩))
              go_ret
              exact ⟨rfl, below_drewN b7 j8⟩
          · rw [if_neg (by decide)] at hs
            have t2 : ((E : Int) != (P0 : Int) + 2) = false := by rw [bne_eq_false_iff_eq]; omega
            have t1 : decide (E ≤ P0) = false := decide_eq_false (by omega)
            have t1' : decide ((E : Int) ≤ (P0 : Int)) = false := decide_eq_false (by omega)
            have pb : P0 ≤ 5000 := by omega
            have eb : E ≤ 5000 := by omega
            clear hs vp
            by_cases hc : E ≤ q
            · rw [if_pos hc] at GG
              obtain ⟨y, hy⟩ : ∃ y, wantS x 2 = y := ⟨_, rfl⟩
              have hy2 : (x : Int) % 65536 = (y : Int) := by rw [← hy]; unfold wantS; rw [if_neg (by decide), show 256 ^ 2 = 65536 from rfl]; omega
              rw [hy] at GG
              clear hy
              rw [GG] at G
              simp only at G
              clear GG
              have c1 : (E : Int) ≤ (q : Int) := by omega
              go_upto_region 23 with (first
                | (go_at_call 20; refine (W _).mono ?_; rintro en wx ⟨rfl, rfl⟩))
              go_quiet (fail)
              have b5 := below_drewN b nq
              have G75 := G7.below (below_drewN (Below.refl _ _) nq)
              have R5 := R.drewN nq
              clear b G7 R cE cX cW
              generalize wr.drewN nq = w5 at *
              go_upto_region 26 with (go_at_call 21; refine (G _ R5).mono ?_; rintro en w6 ⟨rfl, r6, g6⟩)
              have b6 : Below w.heap.size w w6 := b5.trans (below_of_grown g6 b5.size (by intro k hk; cases hk; exact rlo))
              have G76 := G75.grown_ne g6 NE7.out
              clear b5 G75 R5 g6 G
              have EC := Err_calls r ((catS l').take q) E 0 w6 r6
              go_upto_region 27 with (go_at_call 22; refine EC.mono ?_; rintro en w7 ⟨rfl, j7, rfl⟩)
              have r7 := r6.drewN j7
              have b7 := below_drewN b6 j7
              have G77 := G76.below (below_drewN (Below.refl _ _) j7)
              clear EC r6 b6 G76
              generalize w6.drewN j7 = w7 at *
              obtain ⟨ad', x', k', e1, e2, cX7, _, _, _⟩ := (hL.below b7).cell j hlt
              cases e1
              rw [HXL.out] at e2
              cases e2
              have rI7 : RI w7 (some ad7) N c7 (endsS l' N) := G77.read
              obtain ⟨ad8, e8, cE7⟩ := rI7.at_ j (by rw [endsS_length]; exact hlt)
              cases e8
              rw [endsS_get, HE.out] at cE7
              clear rI7
              have LC := left_cut (catS l') q E qB
              obtain ⟨Lf, hLf⟩ : ∃ Lf, leftS ((catS l').take q) E 0 = Lf := ⟨_, rfl⟩
              have LQ := fun m => quiet_drewN1 (m := m) (Left_calls r ((catS l').take q) E 0 (w7.drewN m) (r7.drewN m))
              rw [hLf] at LC LQ
              have t3 : ((Lf : Int) != (q : Int) - (E : Int)) = false := by rw [bne_eq_false_iff_eq]; omega
              clear hLf LC
              go_upto_region 32 with fail
              go_quiet (first
                | (go_at_call 23; exact Calls.quiet_of_same (num_quiet _ _ _))
                | (go_at_call 24; exact LQ _))
              go_wp2
              go_roundw
              case rel => exact ⟨j + 1, E, by omega, rfl, by go_num, HE, hc, r7.drewN _, G77.below (below_drewN (Below.refl _ _) _), below_drewN b7 _⟩
              case measure => simp [intOf]; omega
            · rw [if_neg hc] at GG
              rw [GG] at G
              simp only at G
              clear GG
              have c1 : (q : Int) < (E : Int) := by omega
              go_upto_region 23 with (first
                | (go_at_call 20; refine (W _).mono ?_; rintro en wx ⟨rfl, rfl⟩))
              go_quiet (fail)
              have b5 := below_drewN b nq
              have G75 := G7.below (below_drewN (Below.refl _ _) nq)
              have R5 := R.drewN nq
              clear b G7 R cE cX cW
              generalize wr.drewN nq = w5 at *
              go_upto_region 26 with (go_at_call 21; refine (G _ R5).mono ?_; rintro en w6 ⟨rfl, r6, g6⟩)
              have b6 : Below w.heap.size w w6 := b5.trans (below_of_grown g6 b5.size (by intro k hk; cases hk; exact rlo))
              have G76 := G75.grown_ne g6 NE7.out
              clear b5 G75 R5 g6 G
              have EC := Err_calls r ((catS l').take q) P0 10 w6 r6
              go_upto_region 27 with (go_at_call 22; refine EC.mono ?_; rintro en w7 ⟨rfl, j7, rfl⟩)
              have r7 := r6.drewN j7
              have b7 := below_drewN b6 j7
              have G77 := G76.below (below_drewN (Below.refl _ _) j7)
              clear EC r6 b6 G76
              generalize w6.drewN j7 = w7 at *
              obtain ⟨ad', x', k', e1, e2, cX7, _, _, _⟩ := (hL.below b7).cell j hlt
              cases e1
              rw [HXL.out] at e2
              cases e2
              have rI7 : RI w7 (some ad7) N c7 (endsS l' N) := G77.read
              obtain ⟨ad8, e8, cE7⟩ := rI7.at_ j (by rw [endsS_length]; exact hlt)
              cases e8
              rw [endsS_get, HE.out] at cE7
              clear rI7
              have LC := Left_calls r ((catS l').take q) P0 10 w7 r7
              rw [leftS_broken _ _ _ (by decide)] at LC
              go_wp2_with (first
                | (go_at_call 23; refine (num_calls _ _).mono ?_; rintro en wx ⟨rfl, rfl⟩)
                | (go_at_call 24; refine LC.mono ?_; rintro en w8 ⟨rfl, j8, rfl⟩))
              go_ret
              exact ⟨rfl, below_drewN b7 j8⟩
          · rw [if_neg (by decide)] at hs
            have t2 : ((E : Int) != (P0 : Int) + 4) = false := by rw [bne_eq_false_iff_eq]; omega
            have t1 : decide (E ≤ P0) = false := decide_eq_false (by omega)
            have t1' : decide ((E : Int) ≤ (P0 : Int)) = false := decide_eq_false (by omega)
            have pb : P0 ≤ 5000 := by omega
            have eb : E ≤ 5000 := by omega
            clear hs vp
            by_cases hc : E ≤ q
            · rw [if_pos hc] at GG
              obtain ⟨y, hy⟩ : ∃ y, wantS x 4 = y := ⟨_, rfl⟩
              have hy2 : (x : Int) % 4294967296 = (y : Int) := by rw [← hy]; unfold wantS; rw [if_neg (by decide), show 256 ^ 4 = 4294967296 from rfl]; omega
              rw [hy] at GG
              clear hy
              rw [GG] at G
              simp only at G
              clear GG
              have c1 : (E : Int) ≤ (q : Int) := by omega
              go_upto_region 23 with (first
                | (go_at_call 20; refine (W _).mono ?_; rintro en wx ⟨rfl, rfl⟩))
              go_quiet (fail)
              have b5 := below_drewN b nq
              have G75 := G7.below (below_drewN (Below.refl _ _) nq)
              have R5 := R.drewN nq
              clear b G7 R cE cX cW
              generalize wr.drewN nq = w5 at *
              go_upto_region 26 with (go_at_call 21; refine (G _ R5).mono ?_; rintro en w6 ⟨rfl, r6, g6⟩)
              have b6 : Below w.heap.size w w6 := b5.trans (below_of_grown g6 b5.size (by intro k hk; cases hk; exact rlo))
              have G76 := G75.grown_ne g6 NE7.out
              clear b5 G75 R5 g6 G
              have EC := Err_calls r ((catS l').take q) E 0 w6 r6
              go_upto_region 27 with (go_at_call 22; refine EC.mono ?_; rintro en w7 ⟨rfl, j7, rfl⟩)
              have r7 := r6.drewN j7
              have b7 := below_drewN b6 j7
              have G77 := G76.below (below_drewN (Below.refl _ _) j7)
              clear EC r6 b6 G76
              generalize w6.drewN j7 = w7 at *
              obtain ⟨ad', x', k', e1, e2, cX7, _, _, _⟩ := (hL.below b7).cell j hlt
              cases e1
              rw [HXL.out] at e2
              cases e2
              have rI7 : RI w7 (some ad7) N c7 (endsS l' N) := G77.read
              obtain ⟨ad8, e8, cE7⟩ := rI7.at_ j (by rw [endsS_length]; exact hlt)
              cases e8
              rw [endsS_get, HE.out] at cE7
              clear rI7
              have LC := left_cut (catS l') q E qB
              obtain ⟨Lf, hLf⟩ : ∃ Lf, leftS ((catS l').take q) E 0 = Lf := ⟨_, rfl⟩
              have LQ := fun m => quiet_drewN1 (m := m) (Left_calls r ((catS l').take q) E 0 (w7.drewN m) (r7.drewN m))
              rw [hLf] at LC LQ
              have t3 : ((Lf : Int) != (q : Int) - (E : Int)) = false := by rw [bne_eq_false_iff_eq]; omega
              clear hLf LC
              go_upto_region 32 with fail
              go_quiet (first
                | (go_at_call 23; exact Calls.quiet_of_same (num_quiet _ _ _))
                | (go_at_call 24; exact LQ _))
              go_wp2
              go_roundw
              case rel => exact ⟨j + 1, E, by omega, rfl, by go_num, HE, hc, r7.drewN _, G77.below (below_drewN (Below.refl _ _) _), below_drewN b7 _⟩
              case measure => simp [intOf]; omega
            · rw [if_neg hc] at GG
              rw [GG] at G
              simp only at G
              clear GG
              have c1 : (q : Int) < (E : Int) := by omega
              go_upto_region 23 with (first
                | (go_at_call 20; refine (W _).mono ?_; rintro en wx ⟨rfl, rfl⟩))
              go_quiet (fail)
              have b5 := below_drewN b nq
              have G75 := G7.below (below_drewN (Below.refl _ _) nq)
              have R5 := R.drewN nq
              clear b G7 R cE cX cW
              generalize wr.drewN nq = w5 at *
              go_upto_region 26 with (go_at_call 21; refine (G _ R5).mono ?_; rintro en w6 ⟨rfl, r6, g6⟩)
              have b6 : Below w.heap.size w w6 := b5.trans (below_of_grown g6 b5.size (by intro k hk; cases hk; exact rlo))
              have G76 := G75.grown_ne g6 NE7.out
              clear b5 G75 R5 g6 G
              have EC := Err_calls r ((catS l').take q) P0 10 w6 r6
              go_upto_region 27 with (go_at_call 22; refine EC.mono ?_; rintro en w7 ⟨rfl, j7, rfl⟩)
              have r7 := r6.drewN j7
              have b7 := below_drewN b6 j7
              have G77 := G76.below (below_drewN (Below.refl _ _) j7)
              clear EC r6 b6 G76
              generalize w6.drewN j7 = w7 at *
              obtain ⟨ad', x', k', e1, e2, cX7, _, _, _⟩ := (hL.below b7).cell j hlt
              cases e1
              rw [HXL.out] at e2
              cases e2
              have rI7 : RI w7 (some ad7) N c7 (endsS l' N) := G77.read
              obtain ⟨ad8, e8, cE7⟩ := rI7.at_ j (by rw [endsS_length]; exact hlt)
              cases e8
              rw [endsS_get, HE.out] at cE7
              clear rI7
              have LC := Left_calls r ((catS l').take q) P0 10 w7 r7
              rw [leftS_broken _ _ _ (by decide)] at LC
              go_wp2_with (first
                | (go_at_call 23; refine (num_calls _ _).mono ?_; rintro en wx ⟨rfl, rfl⟩)
                | (go_at_call 24; refine LC.mono ?_; rintro en w8 ⟨rfl, j8, rfl⟩))
              go_ret
              exact ⟨rfl, below_drewN b7 j8⟩
          · rw [if_neg (by decide)] at hs
            have t2 : ((E : Int) != (P0 : Int) + 8) = false := by rw [bne_eq_false_iff_eq]; omega
            have t1 : decide (E ≤ P0) = false := decide_eq_false (by omega)
            have t1' : decide ((E : Int) ≤ (P0 : Int)) = false := decide_eq_false (by omega)
            have pb : P0 ≤ 5000 := by omega
            have eb : E ≤ 5000 := by omega
            clear hs vp
            by_cases hc : E ≤ q
            · rw [if_pos hc] at GG
              have hy : wantS x 8 = x := by unfold wantS; rw [if_neg (by decide)]; exact Nat.mod_eq_of_lt (Nat.lt_of_lt_of_le HX.out (by decide))
              rw [hy] at GG
              clear hy
              rw [GG] at G
              simp only at G
              clear GG
              have c1 : (E : Int) ≤ (q : Int) := by omega
              go_upto_region 23 with (first
                | (go_at_call 20; refine (W _).mono ?_; rintro en wx ⟨rfl, rfl⟩))
              go_quiet (fail)
              have b5 := below_drewN b nq
              have G75 := G7.below (below_drewN (Below.refl _ _) nq)
              have R5 := R.drewN nq
              clear b G7 R cE cX cW
              generalize wr.drewN nq = w5 at *
              go_upto_region 26 with (go_at_call 21; refine (G _ R5).mono ?_; rintro en w6 ⟨rfl, r6, g6⟩)
              have b6 : Below w.heap.size w w6 := b5.trans (below_of_grown g6 b5.size (by intro k hk; cases hk; exact rlo))
              have G76 := G75.grown_ne g6 NE7.out
              clear b5 G75 R5 g6 G
              have EC := Err_calls r ((catS l').take q) E 0 w6 r6
              go_upto_region 27 with (go_at_call 22; refine EC.mono ?_; rintro en w7 ⟨rfl, j7, rfl⟩)
              have r7 := r6.drewN j7
              have b7 := below_drewN b6 j7
              have G77 := G76.below (below_drewN (Below.refl _ _) j7)
              clear EC r6 b6 G76
              generalize w6.drewN j7 = w7 at *
              obtain ⟨ad', x', k', e1, e2, cX7, _, _, _⟩ := (hL.below b7).cell j hlt
              cases e1
              rw [HXL.out] at e2
              cases e2
              have rI7 : RI w7 (some ad7) N c7 (endsS l' N) := G77.read
              obtain ⟨ad8, e8, cE7⟩ := rI7.at_ j (by rw [endsS_length]; exact hlt)
              cases e8
              rw [endsS_get, HE.out] at cE7
              clear rI7
              have LC := left_cut (catS l') q E qB
              obtain ⟨Lf, hLf⟩ : ∃ Lf, leftS ((catS l').take q) E 0 = Lf := ⟨_, rfl⟩
              have LQ := fun m => quiet_drewN1 (m := m) (Left_calls r ((catS l').take q) E 0 (w7.drewN m) (r7.drewN m))
              rw [hLf] at LC LQ
              have t3 : ((Lf : Int) != (q : Int) - (E : Int)) = false := by rw [bne_eq_false_iff_eq]; omega
              clear hLf LC
              go_upto_region 32 with fail
              go_quiet (first
                | (go_at_call 23; exact Calls.quiet_of_same (num_quiet _ _ _))
                | (go_at_call 24; exact LQ _))
              go_wp2
              go_roundw
              case rel => exact ⟨j + 1, E, by omega, rfl, by go_num, HE, hc, r7.drewN _, G77.below (below_drewN (Below.refl _ _) _), below_drewN b7 _⟩
              case measure => simp [intOf]; omega
            · rw [if_neg hc] at GG
              rw [GG] at G
              simp only at G
              clear GG
              have c1 : (q : Int) < (E : Int) := by omega
              go_upto_region 23 with (first
                | (go_at_call 20; refine (W _).mono ?_; rintro en wx ⟨rfl, rfl⟩))
              go_quiet (fail)
              have b5 := below_drewN b nq
              have G75 := G7.below (below_drewN (Below.refl _ _) nq)
              have R5 := R.drewN nq
              clear b G7 R cE cX cW
              generalize wr.drewN nq = w5 at *
              go_upto_region 26 with (go_at_call 21; refine (G _ R5).mono ?_; rintro en w6 ⟨rfl, r6, g6⟩)
              have b6 : Below w.heap.size w w6 := b5.trans (below_of_grown g6 b5.size (by intro k hk; cases hk; exact rlo))
              have G76 := G75.grown_ne g6 NE7.out
              clear b5 G75 R5 g6 G
              have EC := Err_calls r ((catS l').take q) P0 10 w6 r6
              go_upto_region 27 with (go_at_call 22; refine EC.mono ?_; rintro en w7 ⟨rfl, j7, rfl⟩)
              have r7 := r6.drewN j7
              have b7 := below_drewN b6 j7
              have G77 := G76.below (below_drewN (Below.refl _ _) j7)
              clear EC r6 b6 G76
              generalize w6.drewN j7 = w7 at *
              obtain ⟨ad', x', k', e1, e2, cX7, _, _, _⟩ := (hL.below b7).cell j hlt
              cases e1
              rw [HXL.out] at e2
              cases e2
              have rI7 : RI w7 (some ad7) N c7 (endsS l' N) := G77.read
              obtain ⟨ad8, e8, cE7⟩ := rI7.at_ j (by rw [endsS_length]; exact hlt)
              cases e8
              rw [endsS_get, HE.out] at cE7
              clear rI7
              have LC := Left_calls r ((catS l').take q) P0 10 w7 r7
              rw [leftS_broken _ _ _ (by decide)] at LC
              go_wp2_with (first
                | (go_at_call 23; refine (num_calls _ _).mono ?_; rintro en wx ⟨rfl, rfl⟩)
                | (go_at_call 24; refine LC.mono ?_; rintro en w8 ⟨rfl, j8, rfl⟩))
              go_ret
              exact ⟨rfl, below_drewN b7 j8⟩
        · obtain rfl : N = j := by omega
          have e1 : P0 = m6 := by rw [← HP.out, ← M6.out, ← posS_all, hlen.out]
          have qB : q ≤ (catS l').length := by rw [M6.out]; exact qle
          have LC := left_cut (catS l') q P0 qB
          obtain ⟨Lf, hLf⟩ : ∃ Lf, leftS ((catS l').take q) P0 0 = Lf := ⟨_, rfl⟩
          have LQ := Left_calls r ((catS l').take q) P0 0 wr R
          rw [hLf] at LC LQ
          have t3 : ((Lf : Int) == (q : Int) - (P0 : Int)) = true := by rw [beq_iff_eq]; omega
          have pb : P0 ≤ 5000 := by omega
          clear hLf LC e1
          go_wp2_with (go_at_call 24; refine LQ.mono ?_; rintro en w8 ⟨rfl, j8, rfl⟩)
          go_ret
          exact ⟨ret_bool (by first | exact t3 | simp [t3]), below_drewN b j8⟩
end Go.Proofs.Ytnhmilpnekfhmaa
