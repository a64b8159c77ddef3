/- coppicelaw4.LeafLaid, of items that may be and fit. -/
import Derived.Test.YtenalocpmigppaaFy
namespace Go.Proofs.Ytenalocpmigppaa
open Go.RowKit

theorem drewAt (w : World) (j : Nat) : Below w.heap.size w (w.drewN j) := ⟨rfl, rfl, rfl, Nat.le_refl _, fun _ _ => rfl⟩
theorem Put32T (l : Nat) (A : Option Addr) (n c : Nat) (xs : List UInt8) (x : Nat) (w : World) (hx : RB w A n c xs) (hl : n + 4 = l) (hb : n ≤ 1000000) (hxx : x < 524287) :
    Calls Try.prog 31 #[.slice A n c, .int .u32 (x : Int)] w fun e w' => ∃ g c', e = .returned (.slice (some ⟨g, 0, none⟩) l c') ∧ w.heap.size ≤ g ∧ OB w' g l c' (xs ++ leB x 4) ∧ Below w.heap.size w w' := by
  subst hl
  exact Put32_calls A n c xs x w hx (by omega) (Nat.lt_of_lt_of_le hxx (by decide))
theorem cellT_big {x : It} {p q s f t : Nat} (hs : x.s = (s : Int)) (hf : x.f = (f : Int)) (hq : x.k.length - p = q) (ht : 2 * s + 1 = t) (hb : 512 < s) : cellT p x = [] ++ vF 9 q ++ x.k.drop p ++ vF 9 t ++ leB f 4 := by
  unfold cellT restT
  rw [if_pos (by omega), hs, hf, hq, Int.toNat_natCast, Int.toNat_natCast, ht]
  simp only [List.append_assoc, List.nil_append]
theorem cellT_small {x : It} {p q s t : Nat} (hs : x.s = (s : Int)) (hq : x.k.length - p = q) (ht : 2 * s = t) (hb : ¬ 512 < s) : cellT p x = [] ++ vF 9 q ++ x.k.drop p ++ vF 9 t ++ x.v := by
  unfold cellT restT
  rw [if_neg (by omega), hs, hq, Int.toNat_natCast, ht]
  simp only [List.append_assoc, List.nil_append]
theorem two_cellsT {w : World} {A B : Option Addr} {n c m d : Nat} {xs ys : List UInt8} (h : RB w A n c xs) (k : RB w B m d ys) (j : Nat) (hx : j < xs.length) (hy : j < ys.length) :
    ∃ ad bd v u, A = some ad ∧ B = some bd ∧ w.cell? (ad.add j) = some (.int .u8 (v : UInt8).toNat) ∧ w.cell? (bd.add j) = some (.int .u8 (u : UInt8).toNat) ∧ (v = u ↔ xs[j] = ys[j]) := by
  obtain ⟨ad, v, e1, ev, c1⟩ := RB.addr_eq h j hx
  obtain ⟨bd, u, e2, eu, c2⟩ := RB.addr_eq k j hy
  exact ⟨ad, bd, v, u, e1, e2, c1, c2, by rw [ev, eu]⟩

set_option maxRecDepth 100000 in
set_option maxHeartbeats 8000000 in
theorem LeafLaid_ok (A : Option Addr) (n c : Nat) (vs : List Value) (l : List It) (w : World) (h : RT w A n c vs l) (hs : shortT l = true) (hw : errT l = 0) :
    Calls Try.prog 9 #[.slice A n c] w fun e w' => e = .returned (.bool true) ∧ Below w.heap.size w w' := by
  have F1 := fun W q => short_calls A n c vs l W q
  rw [hs] at F1
  have W1 := fun W q => Wrong_calls A n c vs l W q
  rw [show wrongT l = 0 by
    unfold errT at hw
    by_cases z : wrongT l = 0
    · exact z
    · rw [if_neg z] at hw; exact hw] at W1
  have hO := okT_of hw
  have HO := hideIt hO
  have hl := h.len
  have hfew := hO.few
  rw [hl] at hfew
  have S1 := fun W q => Size_calls A n c vs l W q (short_few hs hl)
  have E1 := fun W q => Encode_ok A n c vs l W q hw
  have ZS := hideIt (body_zeros hO)
  obtain ⟨hh1, hh2⟩ := head_len hO
  have hH0 := headT_length l
  have C1 := hideIt (body_count l)
  have hsz := hO.size
  obtain ⟨x0, hx0⟩ : ∃ x, l[0]? = some x := ⟨_, List.getElem?_eq_getElem hh2⟩
  obtain ⟨x9, hx9⟩ : ∃ x, l[n - 1]? = some x := ⟨_, List.getElem?_eq_getElem (by omega)⟩
  have HR := hideIt (show Key.com x0.k x9.k = preT l from (comAll_ends (keysT l) hO.sort x0.k x9.k (by rw [List.head?_eq_getElem?]; exact keysT_get l 0 x0 hx0) (by rw [List.getLast?_eq_getElem?, keysT_length, hl]; exact keysT_get l (n - 1) x9 hx9)).symm)
  have hd0 : (keysT l).headD [] = x0.k := by rw [List.headD_eq_head?_getD, List.head?_eq_getElem?, keysT_get l 0 x0 hx0]; rfl
  have HD := hideIt (body_head l (vl (preT l) + preT l) (by rw [hH0]; omega))
  rw [hd0] at HD
  have FIT : Hid (∀ i x, l[i]? = some x → atT l i + (cellT (preT l) x).length ≤ 4092) := hideIt (fun i x hx => cellT_fit hO i x hx)
  have AE : Hid (atT l n = sizeT l) := hideIt (by
    rw [← usedT_length hO]
    unfold atT usedT
    simp only [List.length_append, slT_length, ← hl, List.take_length])
  obtain ⟨H, hH⟩ : ∃ H, (headT l).length = H := ⟨_, rfl⟩
  have SL : Hid (∀ i, i < n → ((bodyT l).drop (H + 2 * i)).take 2 = leB (atT l i) 2) := hideIt (fun i hi => by
    have := body_slot l i H (by rw [hl]; exact hi) hH
    rw [this]; unfold atT; rw [hH])
  have CL : Hid (∀ i x, l[i]? = some x → ((bodyT l).drop (atT l i)).take (cellT (preT l) x).length = cellT (preT l) x) := hideIt (fun i x hx => body_cell l i x hx)
  have K0 := hideIt (body_kind l)
  have A0 : Hid (atT l 0 = H + 2 * n) := hideIt (by unfold atT; rw [hH, hl]; simp [ct])
  rw [hH, hl] at hh1
  rw [hl] at hh2 C1
  rw [hH] at hH0
  generalize bodyT l = B at E1 ZS C1 HD SL CL K0
  generalize sizeT l = Z at S1 ZS AE hsz
  have PL : Hid (∀ x, x ∈ l → preT l ≤ x.k.length) := hideIt (fun x hx => (preT_le l x hx).2)
  obtain ⟨p, hp⟩ : ∃ p, preT l = p := ⟨_, rfl⟩
  have AS : Hid (∀ i x, l[i]? = some x → atT l (i + 1) = atT l i + (cellT (preT l) x).length) := hideIt (fun i x hx => by unfold atT; rw [ct_succ _ _ _ _ hx, List.length_append]; omega)
  rw [hp] at hH0 HR HD FIT CL PL AS
  have vp := (vl_bounds p).2
  have HX0 := hideIt hx0
  have HX9 := hideIt hx9
  have HHL := hideIt hH0
  clear hs hw hO hl hx0 hx9 hd0 hH hp hH0
  go_enter Try.func9, Try.ntmps9
  go_upto_region 2 with (go_at_call 11; refine (first_calls _).mono ?_; rintro en w1 ⟨rfl, b1⟩)
  have h1 := h.below b1
  go_upto_region 4 with (first
    | (go_at_call 12; (with_reducible refine (F1 _ h1).mono ?_); rintro en wx ⟨rfl, rfl⟩)
    | (go_at_call 28; (with_reducible refine (W1 _ h1).mono ?_); rintro en w2 ⟨rfl, y2⟩))
  have h2 := h1.below y2
  have b2 := blw_step b1 y2
  clear F1 W1 h1 b1 y2
  go_upto_region 5 with (go_at_call 14; (with_reducible refine (S1 _ h2).mono ?_); rintro en w3 ⟨rfl, y3⟩)
  have h3 := h2.below y3
  have b3 := blw_step b2 y3
  clear S1 h2 b2 y3
  go_upto_region 6 with (go_at_call 23; (with_reducible refine (E1 _ h3).mono ?_); rintro en w4 ⟨g4, rfl, s4, o4, y4⟩)
  have h4 := h3.below y4
  have b4 := blw_step b3 y4
  clear E1 h3 b3 y4 s4
  have zz : ¬ (4092 : Int) < (Z : Int) := by omega
  have k0 := OC.cell o4 0 (.int .u8 1) (by unfold u8s; rw [List.getElem?_map, K0.out]; rfl)
  have U := u16_calls g4 1 n 1 B w4 o4 rfl (by omega) C1.out (by omega)
  go_upto_region 11 with (first
    | (go_at_call 24; refine (num_calls _ _).mono ?_; rintro en wx ⟨rfl, rfl⟩)
    | (go_at_call 29; (with_reducible refine U.mono ?_); rintro en w5 ⟨rfl, x5⟩))
  have o5 := o4.below x5
  have b5 := blw_step b4 x5
  clear x5 o4 h4 b4 k0 K0 C1 U
  obtain ⟨ad, ⟨A1, n1, c1⟩, q1, y0, rfl, hy0, it0, rk0, -⟩ := h.row 0 hh2
  obtain ⟨ad', ⟨A9, n9, c9⟩, q9, y9, e', hy9, it9, rk9, -⟩ := h.row (n - 1) (by omega)
  cases e'
  obtain rfl : x0 = y0 := Option.some.inj (HX0.out.symm.trans hy0)
  obtain rfl : x9 = y9 := Option.some.inj (HX9.out.symm.trans hy9)
  have c0 := (it0.below b5).c0
  have c9' := (it9.below b5).c0
  rw [Nat.zero_mul, Addr.add_zero'] at c0
  simp only at c0 c9' rk0 rk9
  have m1 : n1 ≤ 9223372036854775807 := by have h1 := RC.le rk0; have h2 := RC.mx rk0; rw [maxLen_is] at h2; omega
  have m9 : n9 ≤ 9223372036854775807 := by have h1 := RC.le rk9; have h2 := RC.mx rk9; rw [maxLen_is] at h2; omega
  have i0 : (0 : Int) < (n : Int) := by omega
  have i9 : ((n : Int) - 1).toNat = n - 1 := by omega
  have i9a : (0 : Int) ≤ (n : Int) - 1 := by omega
  have i9b : (n : Int) - 1 < (n : Int) := by omega
  have HC : Hid (0 + Key.com (x0.k.drop 0) (x9.k.drop 0) = p) := hideIt (by simpa using HR.out)
  have HX := hideIt rk0.len
  have HY := hideIt rk9.len
  have P0 : p ≤ n1 := by rw [← HX.out]; exact PL.out x0 (List.mem_of_getElem? HX0.out)
  clear it0 it9 hy0 hy9 HX0 HX9 HR
  go_wp2
  clear c0 c9' i0 i9 i9a i9b
  go_loopw [10] (fun kk wk => ∃ (k : Nat), k ≤ n1 ∧ k ≤ n9 ∧ kk = .int .i64 (k : Int) ∧ Hid (k + Key.com (x0.k.drop k) (x9.k.drop k) = p) ∧ OB wk g4 4092 4092 B ∧ Below w.heap.size w wk)
    (fun kk _ => n1 - (intOf kk).toNat)
  case atStart => exact ⟨0, by omega, by omega, rfl, HC, o5, b5⟩
  case round =>
    clear HC o5 b5
    obtain ⟨k, hk, hkn, rfl, HC, oj, bj⟩ := hrel
    have r0j : RB wr A1 n1 c1 x0.k := rk0.below bj
    have r9j : RB wr A9 n9 c9 x9.k := rk9.below bj
    by_cases hkp : k < n1 ∧ k < n9 ∧ ∃ (hx : k < x0.k.length) (hy : k < x9.k.length), x0.k[k] = x9.k[k]
    · obtain ⟨hk1, hk2, kx, ks, he⟩ := hkp
      have t1 : decide (k < n1) = true := decide_eq_true hk1
      have t1' : (k : Int) < (n1 : Int) := by omega
      have t2 : decide (k < n9) = true := decide_eq_true hk2
      have t2' : (k : Int) < (n9 : Int) := by omega
      obtain ⟨adx, ads, vx, vy, e1, e2, ca, ca', hev⟩ := two_cellsT r0j r9j k kx ks
      subst e1 e2
      have sc := Key.com_step x0.k x9.k k kx ks
      rw [HC.out, if_pos he] at sc
      have H3 := hideIt sc.symm
      obtain rfl := hev.2 he
      have tv : (vx == vx) = true := beq_self_eq_true _
      clear sc he kx ks HC r0j r9j hev
      go_wp2
      go_quiet (fail)
      go_wp2
      go_roundw
      case rel => exact ⟨k + 1, by omega, by omega, by go_num, H3, oj.below (drewAt _ _), blw_step bj (drewAt _ _)⟩
      case measure => simp [intOf]; omega
    · have hkr : Hid (k = p) := hideIt (by
        have h0 := HC.out
        by_cases z1 : k < n1
        · by_cases z2 : k < n9
          · have kx : k < x0.k.length := by rw [HX.out]; exact z1
            have ks : k < x9.k.length := by rw [HY.out]; exact z2
            have sc := Key.com_step x0.k x9.k k kx ks
            rw [if_neg (fun q => hkp ⟨z1, z2, kx, ks, q⟩), h0] at sc
            exact sc.symm
          · have := Key.com_end x0.k x9.k k (Or.inr (by rw [HY.out]; omega))
            omega
        · have := Key.com_end x0.k x9.k k (Or.inl (by rw [HX.out]; omega))
          omega)
      obtain ⟨K, hK⟩ : ∃ K, vl p + p = K := ⟨_, rfl⟩
      have HK := hideIt hK
      rw [hK] at HD
      have hHK : H = 3 + K := by have := HHL.out; omega
      have eH : (3 : Int) + (K : Int) = (H : Int) := by omega
      have HHK := hideIt hHK
      have kle : K ≤ 4092 := by omega
      have ple : p ≤ K := by omega
      clear hHK hK
      have wH : IntKind.i64.wrap (H : Int) = (H : Int) := IntWalk.i64_in _ (by omega)
      have wH2 : IntKind.i64.wrap ((H : Int) + 2 * (n : Int)) = (H : Int) + 2 * (n : Int) := IntWalk.i64_in _ (by omega)
      have upp := u64_wrap p (by omega)
      have F : (¬ k < n1) ∨ (k < n1 ∧ ¬ k < n9) ∨ (k < n1 ∧ k < n9) := by omega
      obtain rfl := hkr.out
      rcases F with z1 | ⟨z1, z2⟩ | ⟨z1, z2⟩
      · have t1 : decide (k < n1) = false := decide_eq_false z1
        have t1' : decide ((k : Int) < (n1 : Int)) = false := decide_eq_false (by omega)
        clear r0j r9j hkp z1 hkr HC
        go_wp2
        go_quiet (fail)
        have o6 := oj.below (drewAt wr nq)
        have b6 := blw_step bj (drewAt wr nq)
        generalize wr.drewN nq = w6 at o6 b6 ⊢
        clear oj bj
        have rn := RB.nil w6
        have lt6 := o6.lt
        have tk : True := trivial
        go_upto_region 18 with (first
          | (with_reducible refine wpS_toT rfl (.tmp 109) (.tmp 110) rfl _ _ _ _ rfl rk7 k rfl P0 ?_; intro rk8)
          | (with_reducible refine wpB_app2 rfl (.tmp 108) (.tmp 111) rfl _ _ _ _ rfl o7' _ _ _ _ rfl rk8 K HK.out (by omega) ?_; intro g8 e8 w8 q8 o8)
          | (go_at_call 30; (with_reducible refine (PutVT (vl k) _ _ _ _ k _ rn (by omega) (by omega) (by omega)).mono ?_); rintro en w7 ⟨g7, e7, rfl, s7, o7', y7⟩; have rk7 := rk0.below (blw_step b6 y7)))
        have F8 := grown_new q8 (blw_step b6 y7) (Nat.le_trans b6.size s7)
        have o9 := (o6.below y7).same (sm_grown2 q8 (o6.below y7).lt (by simp only [ne_eq]; omega))
        obtain ⟨-, b9⟩ := F8
        clear rn q8 y7 s7 o7' rk7 rk8 o6 b6 upp lt6
        have i1 : (H : Int) + 2 * (n : Int) ≤ 4092 := by omega
        go_upto_region 20 with (first
          | (with_reducible refine wpS_midT rfl (.tmp 116) (.const (.int .i64 3)) (.tmp 117) rfl _ _ _ _ rfl o9.read _ _ 3 H K rfl rfl (by omega) (by omega) (by have := HHK.out; omega) (by omega) (by have := HHK.out; omega) ?_; intro A10 c10 r10)
          | (go_at_call 27; (with_reducible refine (SameBytes_calls _ _ _ _ _ _ _ _ _ r10 o8.read true (by rw [HD.out]; simp)).mono ?_); rintro en wx ⟨rfl, rfl⟩))
        clear o8
        have g4h := True.intro
        go_wp2
        go_loopw [12, 15] (fun aa ii wr => ∃ (i a : Nat), i ≤ n ∧ aa = .int .i64 (a : Int) ∧ ii = .int .i64 (i : Int) ∧ Hid (a = atT l i) ∧ OB wr g4 4092 4092 B ∧ Below w.heap.size w wr)
          (fun _ ii _ => n - (intOf ii).toNat)
        case atStart => exact ⟨0, H + 2 * n, by omega, by go_num, rfl, hideIt A0.out.symm, o9, b9⟩
        case round =>
          clear o9 b9
          obtain ⟨i, a, hi, rfl, rfl, HA, ob, bb⟩ := hrel
          by_cases hlt : i < n
          · obtain ⟨ad', ⟨P1, n2, c2⟩, ⟨P3, n3, c3⟩, x, e', hx, it, rk, rv⟩ := h.row i hlt
            cases e'
            simp only at rk rv
            have lx := HO.out.len x (List.mem_of_getElem? hx)
            have hx2 := HO.out.hold x (List.mem_of_getElem? hx)
            have px : k ≤ n2 := by rw [← rk.len]; exact PL.out x (List.mem_of_getElem? hx)
            obtain ⟨m, hm⟩ : ∃ m, (cellT k x).length = m := ⟨_, rfl⟩
            have HM := hideIt hm
            have fit : a + m ≤ 4092 := by
              have := FIT.out i x hx
              rw [hm, ← HA.out] at this; exact this
            have lo : H + 2 * n ≤ a := by rw [HA.out, ← A0.out]; unfold atT; simp [ct]
            have HA2 : Hid (a + m = atT l (i + 1)) := hideIt (by rw [AS.out i x hx, hm, ← HA.out])
            have HX1 := hideIt hx
            obtain ⟨z1, z2, z3, z4⟩ := of_decide_eq_true lx
            obtain ⟨s, hs⟩ : ∃ s : Nat, x.s = (s : Int) := ⟨x.s.toNat, by omega⟩
            have hfv : ∃ f : Nat, x.f = (f : Int) ∧ f < 524287 ∧ n3 ≤ 5000 := by
              have vl' := rv.len
              unfold holdT at hx2
              split at hx2
              · have := of_decide_eq_true hx2
                exact ⟨x.f.toNat, by omega, by omega, by omega⟩
              · have := of_decide_eq_true hx2
                exact ⟨0, by omega, by omega, by omega⟩
            obtain ⟨f, hf, fb, nb⟩ := hfv
            rw [rk.len] at z2
            obtain ⟨q, hq⟩ : ∃ q, n2 - k = q := ⟨_, rfl⟩
            have HQ := hideIt (show x.k.length - k = q by rw [rk.len]; exact hq)
            have s4 : s ≤ 262144 := by omega
            obtain ⟨i0, i1, i2, i3⟩ := it.below bb
            rw [hs] at i2
            rw [hf] at i3
            simp only at i0 i1
            have HS := hideIt hs
            have HF := hideIt hf
            have uq := u64_wrap q (by omega)
            have uf := u32T f fb
            have eq : (n2 : Int) - (k : Int) = (q : Int) := by omega
            have HQ2 := hideIt hq
            have ql : q ≤ 255 := by omega
            have vq := (vl_bounds q).2
            have j1 : (i : Int) < (n : Int) := by omega
            have x1 := ItAt.new wr 48 (P1, n2, c2) (P3, n3, c3) (s : Int) (f : Int)
            have ba := below1 wr (.cells #[.slice P1 n2 c2, .slice P3 n3 c3, .int .i64 (s : Int), .int .i64 (f : Int)] 48)
            have ob1 := ob.below ba
            have b1' := blw_step bb ba
            have lt1 : wr.heap.size < (wr.alloc (.cells #[.slice P1 n2 c2, .slice P3 n3 c3, .int .i64 (s : Int), .int .i64 (f : Int)] 48)).heap.size := by simp
            have gne : g4 < wr.heap.size := ob.lt
            clear lx hx2 hm hx it z1 z2 z3 z4 hs hf hq ob bb ba
            go_upto_region 30 with fail
            generalize wr.alloc (.cells #[.slice P1 n2 c2, .slice P3 n3 c3, .int .i64 (s : Int), .int .i64 (f : Int)] 48) = w1 at x1 ob1 b1' lt1 ⊢
            obtain ⟨y0, -, -, -⟩ := x1.head
            simp only at y0
            have rn := RB.nil w1
            clear i0 i1 i2 i3 j1
            go_upto_region 32 with (first
              | (with_reducible refine wpS_fromT rfl (.tmp 150) (.tmp 151) rfl _ _ _ _ rfl rk2 k q rfl px HQ2.out ?_; intro A5 c5 r5)
              | (with_reducible refine wpB_app2 rfl (.tmp 148) (.tmp 152) rfl _ _ _ _ rfl o2 _ _ _ _ rfl r5 (vl q + q) rfl (by omega) ?_; intro g3 e3 w3 q3 o3)
              | (go_at_call 30; (with_reducible refine (PutVT (vl q) _ _ _ _ q _ rn (by omega) (by omega) (by omega)).mono ?_); rintro en w2 ⟨g2, e2, rfl, s2, o2, t2'⟩; have x2 := x1.below t2'; obtain ⟨u0, -, -, -⟩ := x2.head; simp only at u0; have rk2 := rk.below (blw_step b1' t2')))
            have F3 := grown_new q3 (blw_step b1' t2') (Nat.le_trans b1'.size s2)
            have lt2 : wr.heap.size < w2.heap.size := Nat.lt_of_lt_of_le lt1 t2'.size
            have x3 := x2.same (sm_grown2 q3 lt2 (by simp only [ne_eq]; omega))
            have ob3 := (ob1.below t2').same (sm_grown2 q3 (ob1.below t2').lt (by simp only [ne_eq]; omega))
            have s3 := F3.1
            have b3 := F3.2
            clear q3 F3 x2 x1 o2 t2' rk2 r5 u0 y0 rn ob1 b1' s2 lt1 uq eq
            obtain ⟨-, v1, v2, v3⟩ := x3.head
            simp only at v1
            by_cases hbig : 512 < s
            · have tb : decide ((512 : Int) < (s : Int)) = true := decide_eq_true (by omega)
              obtain ⟨t, ht⟩ : ∃ t, 2 * s + 1 = t := ⟨_, rfl⟩
              have wt : IntKind.u64.wrap (2 * (s : Int) + 1) = (t : Int) := by rw [IntKind.wrap_u64]; omega
              have tl : t ≤ 524289 := by omega
              have vt := (vl_bounds t).2
              have eC := cellT_big HS.out HF.out HQ.out ht hbig
              have hm4 : vl q + q + vl t + 4 = m := by
                have := o3.len
                have h2 := HM.out
                rw [eC] at h2
                simp only [List.length_append, leB_length] at h2 this
                unfold vl at *
                omega
              have HM4 := hideIt hm4
              have EC := hideIt eC
              clear ht hm4 eC hbig
              go_upto_region 37 with (first
                | (go_at_call 30; (with_reducible refine (PutVT (vl q + q + vl t) _ _ _ _ t _ o3.read rfl (by omega) (by omega)).mono ?_); rintro en w5' ⟨g5, e5, rfl, s5, o5', t5⟩; have x5' := x3.below t5; obtain ⟨-, -, -, u3⟩ := x5'.head)
                | (go_at_call 31; (with_reducible refine (Put32T m _ _ _ _ f _ o5'.read HM4.out (by omega) fb).mono ?_); rintro en w7 ⟨g7, e7, rfl, s7, r7, t7⟩))
              have ob7 := (ob3.below t5).below t7
              have b7 := blw_step (blw_step b3 t5) t7
              rw [← EC.out] at r7
              clear ob3 b3 x3 x5' t5 t7 o5' s5 s7 o3 v1 v2 v3 u3
              have F7 := SL.out i hlt
              rw [← HA.out] at F7
              have F8 := CL.out i x HX1.out
              rw [← HA.out, HM.out] at F8
              have HF8 := hideIt F8
              have U := u16_calls g4 (H + 2 * i) a ((H : Int) + 2 * (i : Int)) B w7 ob7 (by omega) (by omega) F7 (by omega)
              clear F7 F8
              go_upto_region 39 with (go_at_call 29; (with_reducible refine U.mono ?_); rintro en w8 ⟨rfl, x8⟩)
              have o8 := ob7.below x8
              have r8 := r7.below x8
              have b8 := blw_step b7 x8
              clear x8 ob7 r7 b7 U
              go_upto_region 42 with (first
                | (with_reducible refine wpS_midT rfl (.tmp 196) (.tmp 197) (.tmp 201) rfl _ _ _ _ rfl o8.read _ _ a (a + m) m rfl rfl (by go_num) (by go_num) (by omega) (by omega) (by omega) ?_; intro A11 c11 r11)
                | (go_at_call 27; (with_reducible refine (SameBytes_calls _ _ _ _ _ _ _ _ _ r11 r8.read true (by rw [HF8.out]; simp)).mono ?_); rintro en wx ⟨rfl, rfl⟩))
              go_wp2
              go_roundw
              case rel => exact ⟨i + 1, a + m, by omega, by go_num, by go_num, HA2, o8, b8⟩
              case measure => simp [intOf]; omega
            · have tb : decide ((512 : Int) < (s : Int)) = false := decide_eq_false (by omega)
              obtain ⟨t, ht⟩ : ∃ t, 2 * s = t := ⟨_, rfl⟩
              have wt : IntKind.u64.wrap (2 * (s : Int)) = (t : Int) := by rw [IntKind.wrap_u64]; omega
              have tl : t ≤ 524289 := by omega
              have vt := (vl_bounds t).2
              have eC := cellT_small HS.out HQ.out ht hbig
              have hm4 : vl q + q + vl t + n3 = m := by
                have := o3.len
                have h2 := HM.out
                rw [eC] at h2
                simp only [List.length_append, rv.len] at h2 this
                unfold vl at *
                omega
              have HM4 := hideIt hm4
              have EC := hideIt eC
              clear ht hm4 eC hbig
              go_upto_region 37 with (first
                | (with_reducible refine wpB_app2 rfl (.tmp 175) (.tmp 177) rfl _ _ _ _ rfl o5' _ _ _ _ rfl rv5 m HM4.out (by omega) ?_; intro g7 e7 w7 q7 r7)
                | (go_at_call 30; (with_reducible refine (PutVT (vl q + q + vl t) _ _ _ _ t _ o3.read rfl (by omega) (by omega)).mono ?_); rintro en w5' ⟨g5, e5, rfl, s5, o5', t5⟩; have x5' := x3.below t5; obtain ⟨-, u1, -, -⟩ := x5'.head; simp only at u1; have rv5 := rv.below (blw_step b3 t5)))
              have F7' := grown_new q7 (blw_step b3 t5) (Nat.le_trans b3.size s5)
              have ob7 := (ob3.below t5).same (sm_grown2 q7 (ob3.below t5).lt (by have := ob3.lt; simp only [ne_eq]; omega))
              have b7 := F7'.2
              rw [← EC.out] at r7
              clear ob3 b3 x3 x5' t5 q7 F7' o5' s5 o3 v1 v2 v3 u1 rv5
              have F7 := SL.out i hlt
              rw [← HA.out] at F7
              have F8 := CL.out i x HX1.out
              rw [← HA.out, HM.out] at F8
              have HF8 := hideIt F8
              have U := u16_calls g4 (H + 2 * i) a ((H : Int) + 2 * (i : Int)) B w7 ob7 (by omega) (by omega) F7 (by omega)
              clear F7 F8
              go_upto_region 39 with (go_at_call 29; (with_reducible refine U.mono ?_); rintro en w8 ⟨rfl, x8⟩)
              have o8 := ob7.below x8
              have r8 := r7.below x8
              have b8 := blw_step b7 x8
              clear x8 ob7 r7 b7 U
              go_upto_region 42 with (first
                | (with_reducible refine wpS_midT rfl (.tmp 196) (.tmp 197) (.tmp 201) rfl _ _ _ _ rfl o8.read _ _ a (a + m) m rfl rfl (by go_num) (by go_num) (by omega) (by omega) (by omega) ?_; intro A11 c11 r11)
                | (go_at_call 27; (with_reducible refine (SameBytes_calls _ _ _ _ _ _ _ _ _ r11 r8.read true (by rw [HF8.out]; simp)).mono ?_); rintro en wx ⟨rfl, rfl⟩))
              go_wp2
              go_roundw
              case rel => exact ⟨i + 1, a + m, by omega, by go_num, by go_num, HA2, o8, b8⟩
              case measure => simp [intOf]; omega
          · obtain rfl : n = i := by omega
            have aZ : a = Z := by rw [HA.out, AE.out]
            subst aZ
            clear hlt HA hi
            obtain ⟨d, hd⟩ : ∃ d, 4092 - a = d := ⟨_, rfl⟩
            rw [hd] at ZS
            have ed : (4092 : Int) - (a : Int) = (d : Int) := by omega
            have wd : IntKind.i64.wrap (d : Int) = (d : Int) := IntWalk.i64_in _ (by omega)
            obtain ⟨A5, c5, hsl, hrb⟩ := cut_from (A := some ⟨g4, 0, none⟩) (n := 4092) (c := 4092) hsz d hd
            have hsl' : ∀ w, (Instr.sliceAt 34 (.slice (some ⟨g4, 0, none⟩) 4092 4092) (some (.int .i64 (a : Int))) none none).run Try.prog w = .ok (.slice A5 d c5) w := hsl
            obtain ⟨Zc, hZ, MK⟩ := make_fullT d (by omega)
            have ba5 : Below wr.heap.size wr (wr.alloc (.cells Zc 5)).drew := (below1 wr (.cells Zc 5)).drew
            have h5 := (hrb _ _ ob.read).below ba5
            rw [ZS.out] at h5
            have z5 : RB (wr.alloc (.cells Zc 5)).drew (some ⟨wr.heap.size, 0, none⟩) d d (zeros d) := ((hZ wr).below (drew1 _)).read
            have SB := SameBytes_calls _ _ _ _ _ _ _ _ _ h5 z5 true (by simp)
            have b9 := blw_step bb ba5
            have ea : ((a : Int) == (a : Int)) = true := beq_self_eq_true _
            clear hZ hrb hsl ZS hd h5 z5 ba5 ob bb
            go_wp2
            go_region_held3 (fun _ => True) (trivial)
              (first
                | (go_at_call 27; (with_reducible refine SB.mono ?_); rintro en wx ⟨rfl, rfl⟩))
            go_wp2
            go_ret
            exact ⟨rfl, b9⟩
      · have t1 : decide (k < n1) = true := decide_eq_true z1
        have t1' : (k : Int) < (n1 : Int) := by omega
        have t2 : decide (k < n9) = false := decide_eq_false z2
        have t2' : decide ((k : Int) < (n9 : Int)) = false := decide_eq_false (by omega)
        clear r0j r9j hkp z1 z2 hkr HC
        go_wp2
        go_quiet (fail)
        have o6 := oj.below (drewAt wr nq)
        have b6 := blw_step bj (drewAt wr nq)
        generalize wr.drewN nq = w6 at o6 b6 ⊢
        clear oj bj
        have rn := RB.nil w6
        have lt6 := o6.lt
        have tk : True := trivial
        go_upto_region 18 with (first
          | (with_reducible refine wpS_toT rfl (.tmp 109) (.tmp 110) rfl _ _ _ _ rfl rk7 k rfl P0 ?_; intro rk8)
          | (with_reducible refine wpB_app2 rfl (.tmp 108) (.tmp 111) rfl _ _ _ _ rfl o7' _ _ _ _ rfl rk8 K HK.out (by omega) ?_; intro g8 e8 w8 q8 o8)
          | (go_at_call 30; (with_reducible refine (PutVT (vl k) _ _ _ _ k _ rn (by omega) (by omega) (by omega)).mono ?_); rintro en w7 ⟨g7, e7, rfl, s7, o7', y7⟩; have rk7 := rk0.below (blw_step b6 y7)))
        have F8 := grown_new q8 (blw_step b6 y7) (Nat.le_trans b6.size s7)
        have o9 := (o6.below y7).same (sm_grown2 q8 (o6.below y7).lt (by simp only [ne_eq]; omega))
        obtain ⟨-, b9⟩ := F8
        clear rn q8 y7 s7 o7' rk7 rk8 o6 b6 upp lt6
        have i1 : (H : Int) + 2 * (n : Int) ≤ 4092 := by omega
        go_upto_region 20 with (first
          | (with_reducible refine wpS_midT rfl (.tmp 116) (.const (.int .i64 3)) (.tmp 117) rfl _ _ _ _ rfl o9.read _ _ 3 H K rfl rfl (by omega) (by omega) (by have := HHK.out; omega) (by omega) (by have := HHK.out; omega) ?_; intro A10 c10 r10)
          | (go_at_call 27; (with_reducible refine (SameBytes_calls _ _ _ _ _ _ _ _ _ r10 o8.read true (by rw [HD.out]; simp)).mono ?_); rintro en wx ⟨rfl, rfl⟩))
        clear o8
        have g4h := True.intro
        go_wp2
        go_loopw [12, 15] (fun aa ii wr => ∃ (i a : Nat), i ≤ n ∧ aa = .int .i64 (a : Int) ∧ ii = .int .i64 (i : Int) ∧ Hid (a = atT l i) ∧ OB wr g4 4092 4092 B ∧ Below w.heap.size w wr)
          (fun _ ii _ => n - (intOf ii).toNat)
        case atStart => exact ⟨0, H + 2 * n, by omega, by go_num, rfl, hideIt A0.out.symm, o9, b9⟩
        case round =>
          clear o9 b9
          obtain ⟨i, a, hi, rfl, rfl, HA, ob, bb⟩ := hrel
          by_cases hlt : i < n
          · obtain ⟨ad', ⟨P1, n2, c2⟩, ⟨P3, n3, c3⟩, x, e', hx, it, rk, rv⟩ := h.row i hlt
            cases e'
            simp only at rk rv
            have lx := HO.out.len x (List.mem_of_getElem? hx)
            have hx2 := HO.out.hold x (List.mem_of_getElem? hx)
            have px : k ≤ n2 := by rw [← rk.len]; exact PL.out x (List.mem_of_getElem? hx)
            obtain ⟨m, hm⟩ : ∃ m, (cellT k x).length = m := ⟨_, rfl⟩
            have HM := hideIt hm
            have fit : a + m ≤ 4092 := by
              have := FIT.out i x hx
              rw [hm, ← HA.out] at this; exact this
            have lo : H + 2 * n ≤ a := by rw [HA.out, ← A0.out]; unfold atT; simp [ct]
            have HA2 : Hid (a + m = atT l (i + 1)) := hideIt (by rw [AS.out i x hx, hm, ← HA.out])
            have HX1 := hideIt hx
            obtain ⟨z1, z2, z3, z4⟩ := of_decide_eq_true lx
            obtain ⟨s, hs⟩ : ∃ s : Nat, x.s = (s : Int) := ⟨x.s.toNat, by omega⟩
            have hfv : ∃ f : Nat, x.f = (f : Int) ∧ f < 524287 ∧ n3 ≤ 5000 := by
              have vl' := rv.len
              unfold holdT at hx2
              split at hx2
              · have := of_decide_eq_true hx2
                exact ⟨x.f.toNat, by omega, by omega, by omega⟩
              · have := of_decide_eq_true hx2
                exact ⟨0, by omega, by omega, by omega⟩
            obtain ⟨f, hf, fb, nb⟩ := hfv
            rw [rk.len] at z2
            obtain ⟨q, hq⟩ : ∃ q, n2 - k = q := ⟨_, rfl⟩
            have HQ := hideIt (show x.k.length - k = q by rw [rk.len]; exact hq)
            have s4 : s ≤ 262144 := by omega
            obtain ⟨i0, i1, i2, i3⟩ := it.below bb
            rw [hs] at i2
            rw [hf] at i3
            simp only at i0 i1
            have HS := hideIt hs
            have HF := hideIt hf
            have uq := u64_wrap q (by omega)
            have uf := u32T f fb
            have eq : (n2 : Int) - (k : Int) = (q : Int) := by omega
            have HQ2 := hideIt hq
            have ql : q ≤ 255 := by omega
            have vq := (vl_bounds q).2
            have j1 : (i : Int) < (n : Int) := by omega
            have x1 := ItAt.new wr 48 (P1, n2, c2) (P3, n3, c3) (s : Int) (f : Int)
            have ba := below1 wr (.cells #[.slice P1 n2 c2, .slice P3 n3 c3, .int .i64 (s : Int), .int .i64 (f : Int)] 48)
            have ob1 := ob.below ba
            have b1' := blw_step bb ba
            have lt1 : wr.heap.size < (wr.alloc (.cells #[.slice P1 n2 c2, .slice P3 n3 c3, .int .i64 (s : Int), .int .i64 (f : Int)] 48)).heap.size := by simp
            have gne : g4 < wr.heap.size := ob.lt
            clear lx hx2 hm hx it z1 z2 z3 z4 hs hf hq ob bb ba
            go_upto_region 30 with fail
            generalize wr.alloc (.cells #[.slice P1 n2 c2, .slice P3 n3 c3, .int .i64 (s : Int), .int .i64 (f : Int)] 48) = w1 at x1 ob1 b1' lt1 ⊢
            obtain ⟨y0, -, -, -⟩ := x1.head
            simp only at y0
            have rn := RB.nil w1
            clear i0 i1 i2 i3 j1
            go_upto_region 32 with (first
              | (with_reducible refine wpS_fromT rfl (.tmp 150) (.tmp 151) rfl _ _ _ _ rfl rk2 k q rfl px HQ2.out ?_; intro A5 c5 r5)
              | (with_reducible refine wpB_app2 rfl (.tmp 148) (.tmp 152) rfl _ _ _ _ rfl o2 _ _ _ _ rfl r5 (vl q + q) rfl (by omega) ?_; intro g3 e3 w3 q3 o3)
              | (go_at_call 30; (with_reducible refine (PutVT (vl q) _ _ _ _ q _ rn (by omega) (by omega) (by omega)).mono ?_); rintro en w2 ⟨g2, e2, rfl, s2, o2, t2'⟩; have x2 := x1.below t2'; obtain ⟨u0, -, -, -⟩ := x2.head; simp only at u0; have rk2 := rk.below (blw_step b1' t2')))
            have F3 := grown_new q3 (blw_step b1' t2') (Nat.le_trans b1'.size s2)
            have lt2 : wr.heap.size < w2.heap.size := Nat.lt_of_lt_of_le lt1 t2'.size
            have x3 := x2.same (sm_grown2 q3 lt2 (by simp only [ne_eq]; omega))
            have ob3 := (ob1.below t2').same (sm_grown2 q3 (ob1.below t2').lt (by simp only [ne_eq]; omega))
            have s3 := F3.1
            have b3 := F3.2
            clear q3 F3 x2 x1 o2 t2' rk2 r5 u0 y0 rn ob1 b1' s2 lt1 uq eq
            obtain ⟨-, v1, v2, v3⟩ := x3.head
            simp only at v1
            by_cases hbig : 512 < s
            · have tb : decide ((512 : Int) < (s : Int)) = true := decide_eq_true (by omega)
              obtain ⟨t, ht⟩ : ∃ t, 2 * s + 1 = t := ⟨_, rfl⟩
              have wt : IntKind.u64.wrap (2 * (s : Int) + 1) = (t : Int) := by rw [IntKind.wrap_u64]; omega
              have tl : t ≤ 524289 := by omega
              have vt := (vl_bounds t).2
              have eC := cellT_big HS.out HF.out HQ.out ht hbig
              have hm4 : vl q + q + vl t + 4 = m := by
                have := o3.len
                have h2 := HM.out
                rw [eC] at h2
                simp only [List.length_append, leB_length] at h2 this
                unfold vl at *
                omega
              have HM4 := hideIt hm4
              have EC := hideIt eC
              clear ht hm4 eC hbig
              go_upto_region 37 with (first
                | (go_at_call 30; (with_reducible refine (PutVT (vl q + q + vl t) _ _ _ _ t _ o3.read rfl (by omega) (by omega)).mono ?_); rintro en w5' ⟨g5, e5, rfl, s5, o5', t5⟩; have x5' := x3.below t5; obtain ⟨-, -, -, u3⟩ := x5'.head)
                | (go_at_call 31; (with_reducible refine (Put32T m _ _ _ _ f _ o5'.read HM4.out (by omega) fb).mono ?_); rintro en w7 ⟨g7, e7, rfl, s7, r7, t7⟩))
              have ob7 := (ob3.below t5).below t7
              have b7 := blw_step (blw_step b3 t5) t7
              rw [← EC.out] at r7
              clear ob3 b3 x3 x5' t5 t7 o5' s5 s7 o3 v1 v2 v3 u3
              have F7 := SL.out i hlt
              rw [← HA.out] at F7
              have F8 := CL.out i x HX1.out
              rw [← HA.out, HM.out] at F8
              have HF8 := hideIt F8
              have U := u16_calls g4 (H + 2 * i) a ((H : Int) + 2 * (i : Int)) B w7 ob7 (by omega) (by omega) F7 (by omega)
              clear F7 F8
              go_upto_region 39 with (go_at_call 29; (with_reducible refine U.mono ?_); rintro en w8 ⟨rfl, x8⟩)
              have o8 := ob7.below x8
              have r8 := r7.below x8
              have b8 := blw_step b7 x8
              clear x8 ob7 r7 b7 U
              go_upto_region 42 with (first
                | (with_reducible refine wpS_midT rfl (.tmp 196) (.tmp 197) (.tmp 201) rfl _ _ _ _ rfl o8.read _ _ a (a + m) m rfl rfl (by go_num) (by go_num) (by omega) (by omega) (by omega) ?_; intro A11 c11 r11)
                | (go_at_call 27; (with_reducible refine (SameBytes_calls _ _ _ _ _ _ _ _ _ r11 r8.read true (by rw [HF8.out]; simp)).mono ?_); rintro en wx ⟨rfl, rfl⟩))
              go_wp2
              go_roundw
              case rel => exact ⟨i + 1, a + m, by omega, by go_num, by go_num, HA2, o8, b8⟩
              case measure => simp [intOf]; omega
            · have tb : decide ((512 : Int) < (s : Int)) = false := decide_eq_false (by omega)
              obtain ⟨t, ht⟩ : ∃ t, 2 * s = t := ⟨_, rfl⟩
              have wt : IntKind.u64.wrap (2 * (s : Int)) = (t : Int) := by rw [IntKind.wrap_u64]; omega
              have tl : t ≤ 524289 := by omega
              have vt := (vl_bounds t).2
              have eC := cellT_small HS.out HQ.out ht hbig
              have hm4 : vl q + q + vl t + n3 = m := by
                have := o3.len
                have h2 := HM.out
                rw [eC] at h2
                simp only [List.length_append, rv.len] at h2 this
                unfold vl at *
                omega
              have HM4 := hideIt hm4
              have EC := hideIt eC
              clear ht hm4 eC hbig
              go_upto_region 37 with (first
                | (with_reducible refine wpB_app2 rfl (.tmp 175) (.tmp 177) rfl _ _ _ _ rfl o5' _ _ _ _ rfl rv5 m HM4.out (by omega) ?_; intro g7 e7 w7 q7 r7)
                | (go_at_call 30; (with_reducible refine (PutVT (vl q + q + vl t) _ _ _ _ t _ o3.read rfl (by omega) (by omega)).mono ?_); rintro en w5' ⟨g5, e5, rfl, s5, o5', t5⟩; have x5' := x3.below t5; obtain ⟨-, u1, -, -⟩ := x5'.head; simp only at u1; have rv5 := rv.below (blw_step b3 t5)))
              have F7' := grown_new q7 (blw_step b3 t5) (Nat.le_trans b3.size s5)
              have ob7 := (ob3.below t5).same (sm_grown2 q7 (ob3.below t5).lt (by have := ob3.lt; simp only [ne_eq]; omega))
              have b7 := F7'.2
              rw [← EC.out] at r7
              clear ob3 b3 x3 x5' t5 q7 F7' o5' s5 o3 v1 v2 v3 u1 rv5
              have F7 := SL.out i hlt
              rw [← HA.out] at F7
              have F8 := CL.out i x HX1.out
              rw [← HA.out, HM.out] at F8
              have HF8 := hideIt F8
              have U := u16_calls g4 (H + 2 * i) a ((H : Int) + 2 * (i : Int)) B w7 ob7 (by omega) (by omega) F7 (by omega)
              clear F7 F8
              go_upto_region 39 with (go_at_call 29; (with_reducible refine U.mono ?_); rintro en w8 ⟨rfl, x8⟩)
              have o8 := ob7.below x8
              have r8 := r7.below x8
              have b8 := blw_step b7 x8
              clear x8 ob7 r7 b7 U
              go_upto_region 42 with (first
                | (with_reducible refine wpS_midT rfl (.tmp 196) (.tmp 197) (.tmp 201) rfl _ _ _ _ rfl o8.read _ _ a (a + m) m rfl rfl (by go_num) (by go_num) (by omega) (by omega) (by omega) ?_; intro A11 c11 r11)
                | (go_at_call 27; (with_reducible refine (SameBytes_calls _ _ _ _ _ _ _ _ _ r11 r8.read true (by rw [HF8.out]; simp)).mono ?_); rintro en wx ⟨rfl, rfl⟩))
              go_wp2
              go_roundw
              case rel => exact ⟨i + 1, a + m, by omega, by go_num, by go_num, HA2, o8, b8⟩
              case measure => simp [intOf]; omega
          · obtain rfl : n = i := by omega
            have aZ : a = Z := by rw [HA.out, AE.out]
            subst aZ
            clear hlt HA hi
            obtain ⟨d, hd⟩ : ∃ d, 4092 - a = d := ⟨_, rfl⟩
            rw [hd] at ZS
            have ed : (4092 : Int) - (a : Int) = (d : Int) := by omega
            have wd : IntKind.i64.wrap (d : Int) = (d : Int) := IntWalk.i64_in _ (by omega)
            obtain ⟨A5, c5, hsl, hrb⟩ := cut_from (A := some ⟨g4, 0, none⟩) (n := 4092) (c := 4092) hsz d hd
            have hsl' : ∀ w, (Instr.sliceAt 34 (.slice (some ⟨g4, 0, none⟩) 4092 4092) (some (.int .i64 (a : Int))) none none).run Try.prog w = .ok (.slice A5 d c5) w := hsl
            obtain ⟨Zc, hZ, MK⟩ := make_fullT d (by omega)
            have ba5 : Below wr.heap.size wr (wr.alloc (.cells Zc 5)).drew := (below1 wr (.cells Zc 5)).drew
            have h5 := (hrb _ _ ob.read).below ba5
            rw [ZS.out] at h5
            have z5 : RB (wr.alloc (.cells Zc 5)).drew (some ⟨wr.heap.size, 0, none⟩) d d (zeros d) := ((hZ wr).below (drew1 _)).read
            have SB := SameBytes_calls _ _ _ _ _ _ _ _ _ h5 z5 true (by simp)
            have b9 := blw_step bb ba5
            have ea : ((a : Int) == (a : Int)) = true := beq_self_eq_true _
            clear hZ hrb hsl ZS hd h5 z5 ba5 ob bb
            go_wp2
            go_region_held3 (fun _ => True) (trivial)
              (first
                | (go_at_call 27; (with_reducible refine SB.mono ?_); rintro en wx ⟨rfl, rfl⟩))
            go_wp2
            go_ret
            exact ⟨rfl, b9⟩
      · have t1 : decide (k < n1) = true := decide_eq_true z1
        have t1' : (k : Int) < (n1 : Int) := by omega
        have t2 : decide (k < n9) = true := decide_eq_true z2
        have t2' : (k : Int) < (n9 : Int) := by omega
        have kx : k < x0.k.length := by rw [HX.out]; exact z1
        have ks : k < x9.k.length := by rw [HY.out]; exact z2
        obtain ⟨adx, ads, vx, vy, e1, e2, ca, ca', hev⟩ := two_cellsT r0j r9j k kx ks
        subst e1 e2
        have tv : (((vx.toNat : Nat) : Int) == ((vy.toNat : Nat) : Int)) = false := beq_eq_false_iff_ne.2 (fun q => hkp ⟨z1, z2, kx, ks, hev.1 (UInt8.toNat_inj.1 (by omega))⟩)
        clear r0j r9j hkp z1 z2 hkr HC kx ks hev
        go_wp2
        go_quiet (fail)
        have o6 := oj.below (drewAt wr nq)
        have b6 := blw_step bj (drewAt wr nq)
        generalize wr.drewN nq = w6 at o6 b6 ⊢
        clear oj bj
        have rn := RB.nil w6
        have lt6 := o6.lt
        have tk : True := trivial
        go_upto_region 18 with (first
          | (with_reducible refine wpS_toT rfl (.tmp 109) (.tmp 110) rfl _ _ _ _ rfl rk7 k rfl P0 ?_; intro rk8)
          | (with_reducible refine wpB_app2 rfl (.tmp 108) (.tmp 111) rfl _ _ _ _ rfl o7' _ _ _ _ rfl rk8 K HK.out (by omega) ?_; intro g8 e8 w8 q8 o8)
          | (go_at_call 30; (with_reducible refine (PutVT (vl k) _ _ _ _ k _ rn (by omega) (by omega) (by omega)).mono ?_); rintro en w7 ⟨g7, e7, rfl, s7, o7', y7⟩; have rk7 := rk0.below (blw_step b6 y7)))
        have F8 := grown_new q8 (blw_step b6 y7) (Nat.le_trans b6.size s7)
        have o9 := (o6.below y7).same (sm_grown2 q8 (o6.below y7).lt (by simp only [ne_eq]; omega))
        obtain ⟨-, b9⟩ := F8
        clear rn q8 y7 s7 o7' rk7 rk8 o6 b6 upp lt6
        have i1 : (H : Int) + 2 * (n : Int) ≤ 4092 := by omega
        go_upto_region 20 with (first
          | (with_reducible refine wpS_midT rfl (.tmp 116) (.const (.int .i64 3)) (.tmp 117) rfl _ _ _ _ rfl o9.read _ _ 3 H K rfl rfl (by omega) (by omega) (by have := HHK.out; omega) (by omega) (by have := HHK.out; omega) ?_; intro A10 c10 r10)
          | (go_at_call 27; (with_reducible refine (SameBytes_calls _ _ _ _ _ _ _ _ _ r10 o8.read true (by rw [HD.out]; simp)).mono ?_); rintro en wx ⟨rfl, rfl⟩))
        clear o8
        have g4h := True.intro
        go_wp2
        go_loopw [12, 15] (fun aa ii wr => ∃ (i a : Nat), i ≤ n ∧ aa = .int .i64 (a : Int) ∧ ii = .int .i64 (i : Int) ∧ Hid (a = atT l i) ∧ OB wr g4 4092 4092 B ∧ Below w.heap.size w wr)
          (fun _ ii _ => n - (intOf ii).toNat)
        case atStart => exact ⟨0, H + 2 * n, by omega, by go_num, rfl, hideIt A0.out.symm, o9, b9⟩
        case round =>
          clear o9 b9
          obtain ⟨i, a, hi, rfl, rfl, HA, ob, bb⟩ := hrel
          by_cases hlt : i < n
          · obtain ⟨ad', ⟨P1, n2, c2⟩, ⟨P3, n3, c3⟩, x, e', hx, it, rk, rv⟩ := h.row i hlt
            cases e'
            simp only at rk rv
            have lx := HO.out.len x (List.mem_of_getElem? hx)
            have hx2 := HO.out.hold x (List.mem_of_getElem? hx)
            have px : k ≤ n2 := by rw [← rk.len]; exact PL.out x (List.mem_of_getElem? hx)
            obtain ⟨m, hm⟩ : ∃ m, (cellT k x).length = m := ⟨_, rfl⟩
            have HM := hideIt hm
            have fit : a + m ≤ 4092 := by
              have := FIT.out i x hx
              rw [hm, ← HA.out] at this; exact this
            have lo : H + 2 * n ≤ a := by rw [HA.out, ← A0.out]; unfold atT; simp [ct]
            have HA2 : Hid (a + m = atT l (i + 1)) := hideIt (by rw [AS.out i x hx, hm, ← HA.out])
            have HX1 := hideIt hx
            obtain ⟨z1, z2, z3, z4⟩ := of_decide_eq_true lx
            obtain ⟨s, hs⟩ : ∃ s : Nat, x.s = (s : Int) := ⟨x.s.toNat, by omega⟩
            have hfv : ∃ f : Nat, x.f = (f : Int) ∧ f < 524287 ∧ n3 ≤ 5000 := by
              have vl' := rv.len
              unfold holdT at hx2
              split at hx2
              · have := of_decide_eq_true hx2
                exact ⟨x.f.toNat, by omega, by omega, by omega⟩
              · have := of_decide_eq_true hx2
                exact ⟨0, by omega, by omega, by omega⟩
            obtain ⟨f, hf, fb, nb⟩ := hfv
            rw [rk.len] at z2
            obtain ⟨q, hq⟩ : ∃ q, n2 - k = q := ⟨_, rfl⟩
            have HQ := hideIt (show x.k.length - k = q by rw [rk.len]; exact hq)
            have s4 : s ≤ 262144 := by omega
            obtain ⟨i0, i1, i2, i3⟩ := it.below bb
            rw [hs] at i2
            rw [hf] at i3
            simp only at i0 i1
            have HS := hideIt hs
            have HF := hideIt hf
            have uq := u64_wrap q (by omega)
            have uf := u32T f fb
            have eq : (n2 : Int) - (k : Int) = (q : Int) := by omega
            have HQ2 := hideIt hq
            have ql : q ≤ 255 := by omega
            have vq := (vl_bounds q).2
            have j1 : (i : Int) < (n : Int) := by omega
            have x1 := ItAt.new wr 48 (P1, n2, c2) (P3, n3, c3) (s : Int) (f : Int)
            have ba := below1 wr (.cells #[.slice P1 n2 c2, .slice P3 n3 c3, .int .i64 (s : Int), .int .i64 (f : Int)] 48)
            have ob1 := ob.below ba
            have b1' := blw_step bb ba
            have lt1 : wr.heap.size < (wr.alloc (.cells #[.slice P1 n2 c2, .slice P3 n3 c3, .int .i64 (s : Int), .int .i64 (f : Int)] 48)).heap.size := by simp
            have gne : g4 < wr.heap.size := ob.lt
            clear lx hx2 hm hx it z1 z2 z3 z4 hs hf hq ob bb ba
            go_upto_region 30 with fail
            generalize wr.alloc (.cells #[.slice P1 n2 c2, .slice P3 n3 c3, .int .i64 (s : Int), .int .i64 (f : Int)] 48) = w1 at x1 ob1 b1' lt1 ⊢
            obtain ⟨y0, -, -, -⟩ := x1.head
            simp only at y0
            have rn := RB.nil w1
            clear i0 i1 i2 i3 j1
            go_upto_region 32 with (first
              | (with_reducible refine wpS_fromT rfl (.tmp 150) (.tmp 151) rfl _ _ _ _ rfl rk2 k q rfl px HQ2.out ?_; intro A5 c5 r5)
              | (with_reducible refine wpB_app2 rfl (.tmp 148) (.tmp 152) rfl _ _ _ _ rfl o2 _ _ _ _ rfl r5 (vl q + q) rfl (by omega) ?_; intro g3 e3 w3 q3 o3)
              | (go_at_call 30; (with_reducible refine (PutVT (vl q) _ _ _ _ q _ rn (by omega) (by omega) (by omega)).mono ?_); rintro en w2 ⟨g2, e2, rfl, s2, o2, t2'⟩; have x2 := x1.below t2'; obtain ⟨u0, -, -, -⟩ := x2.head; simp only at u0; have rk2 := rk.below (blw_step b1' t2')))
            have F3 := grown_new q3 (blw_step b1' t2') (Nat.le_trans b1'.size s2)
            have lt2 : wr.heap.size < w2.heap.size := Nat.lt_of_lt_of_le lt1 t2'.size
            have x3 := x2.same (sm_grown2 q3 lt2 (by simp only [ne_eq]; omega))
            have ob3 := (ob1.below t2').same (sm_grown2 q3 (ob1.below t2').lt (by simp only [ne_eq]; omega))
            have s3 := F3.1
            have b3 := F3.2
            clear q3 F3 x2 x1 o2 t2' rk2 r5 u0 y0 rn ob1 b1' s2 lt1 uq eq
            obtain ⟨-, v1, v2, v3⟩ := x3.head
            simp only at v1
            by_cases hbig : 512 < s
            · have tb : decide ((512 : Int) < (s : Int)) = true := decide_eq_true (by omega)
              obtain ⟨t, ht⟩ : ∃ t, 2 * s + 1 = t := ⟨_, rfl⟩
              have wt : IntKind.u64.wrap (2 * (s : Int) + 1) = (t : Int) := by rw [IntKind.wrap_u64]; omega
              have tl : t ≤ 524289 := by omega
              have vt := (vl_bounds t).2
              have eC := cellT_big HS.out HF.out HQ.out ht hbig
              have hm4 : vl q + q + vl t + 4 = m := by
                have := o3.len
                have h2 := HM.out
                rw [eC] at h2
                simp only [List.length_append, leB_length] at h2 this
                unfold vl at *
                omega
              have HM4 := hideIt hm4
              have EC := hideIt eC
              clear ht hm4 eC hbig
              go_upto_region 37 with (first
                | (go_at_call 30; (with_reducible refine (PutVT (vl q + q + vl t) _ _ _ _ t _ o3.read rfl (by omega) (by omega)).mono ?_); rintro en w5' ⟨g5, e5, rfl, s5, o5', t5⟩; have x5' := x3.below t5; obtain ⟨-, -, -, u3⟩ := x5'.head)
                | (go_at_call 31; (with_reducible refine (Put32T m _ _ _ _ f _ o5'.read HM4.out (by omega) fb).mono ?_); rintro en w7 ⟨g7, e7, rfl, s7, r7, t7⟩))
              have ob7 := (ob3.below t5).below t7
              have b7 := blw_step (blw_step b3 t5) t7
              rw [← EC.out] at r7
              clear ob3 b3 x3 x5' t5 t7 o5' s5 s7 o3 v1 v2 v3 u3
              have F7 := SL.out i hlt
              rw [← HA.out] at F7
              have F8 := CL.out i x HX1.out
              rw [← HA.out, HM.out] at F8
              have HF8 := hideIt F8
              have U := u16_calls g4 (H + 2 * i) a ((H : Int) + 2 * (i : Int)) B w7 ob7 (by omega) (by omega) F7 (by omega)
              clear F7 F8
              go_upto_region 39 with (go_at_call 29; (with_reducible refine U.mono ?_); rintro en w8 ⟨rfl, x8⟩)
              have o8 := ob7.below x8
              have r8 := r7.below x8
              have b8 := blw_step b7 x8
              clear x8 ob7 r7 b7 U
              go_upto_region 42 with (first
                | (with_reducible refine wpS_midT rfl (.tmp 196) (.tmp 197) (.tmp 201) rfl _ _ _ _ rfl o8.read _ _ a (a + m) m rfl rfl (by go_num) (by go_num) (by omega) (by omega) (by omega) ?_; intro A11 c11 r11)
                | (go_at_call 27; (with_reducible refine (SameBytes_calls _ _ _ _ _ _ _ _ _ r11 r8.read true (by rw [HF8.out]; simp)).mono ?_); rintro en wx ⟨rfl, rfl⟩))
              go_wp2
              go_roundw
              case rel => exact ⟨i + 1, a + m, by omega, by go_num, by go_num, HA2, o8, b8⟩
              case measure => simp [intOf]; omega
            · have tb : decide ((512 : Int) < (s : Int)) = false := decide_eq_false (by omega)
              obtain ⟨t, ht⟩ : ∃ t, 2 * s = t := ⟨_, rfl⟩
              have wt : IntKind.u64.wrap (2 * (s : Int)) = (t : Int) := by rw [IntKind.wrap_u64]; omega
              have tl : t ≤ 524289 := by omega
              have vt := (vl_bounds t).2
              have eC := cellT_small HS.out HQ.out ht hbig
              have hm4 : vl q + q + vl t + n3 = m := by
                have := o3.len
                have h2 := HM.out
                rw [eC] at h2
                simp only [List.length_append, rv.len] at h2 this
                unfold vl at *
                omega
              have HM4 := hideIt hm4
              have EC := hideIt eC
              clear ht hm4 eC hbig
              go_upto_region 37 with (first
                | (with_reducible refine wpB_app2 rfl (.tmp 175) (.tmp 177) rfl _ _ _ _ rfl o5' _ _ _ _ rfl rv5 m HM4.out (by omega) ?_; intro g7 e7 w7 q7 r7)
                | (go_at_call 30; (with_reducible refine (PutVT (vl q + q + vl t) _ _ _ _ t _ o3.read rfl (by omega) (by omega)).mono ?_); rintro en w5' ⟨g5, e5, rfl, s5, o5', t5⟩; have x5' := x3.below t5; obtain ⟨-, u1, -, -⟩ := x5'.head; simp only at u1; have rv5 := rv.below (blw_step b3 t5)))
              have F7' := grown_new q7 (blw_step b3 t5) (Nat.le_trans b3.size s5)
              have ob7 := (ob3.below t5).same (sm_grown2 q7 (ob3.below t5).lt (by have := ob3.lt; simp only [ne_eq]; omega))
              have b7 := F7'.2
              rw [← EC.out] at r7
              clear ob3 b3 x3 x5' t5 q7 F7' o5' s5 o3 v1 v2 v3 u1 rv5
              have F7 := SL.out i hlt
              rw [← HA.out] at F7
              have F8 := CL.out i x HX1.out
              rw [← HA.out, HM.out] at F8
              have HF8 := hideIt F8
              have U := u16_calls g4 (H + 2 * i) a ((H : Int) + 2 * (i : Int)) B w7 ob7 (by omega) (by omega) F7 (by omega)
              clear F7 F8
              go_upto_region 39 with (go_at_call 29; (with_reducible refine U.mono ?_); rintro en w8 ⟨rfl, x8⟩)
              have o8 := ob7.below x8
              have r8 := r7.below x8
              have b8 := blw_step b7 x8
              clear x8 ob7 r7 b7 U
              go_upto_region 42 with (first
                | (with_reducible refine wpS_midT rfl (.tmp 196) (.tmp 197) (.tmp 201) rfl _ _ _ _ rfl o8.read _ _ a (a + m) m rfl rfl (by go_num) (by go_num) (by omega) (by omega) (by omega) ?_; intro A11 c11 r11)
                | (go_at_call 27; (with_reducible refine (SameBytes_calls _ _ _ _ _ _ _ _ _ r11 r8.read true (by rw [HF8.out]; simp)).mono ?_); rintro en wx ⟨rfl, rfl⟩))
              go_wp2
              go_roundw
              case rel => exact ⟨i + 1, a + m, by omega, by go_num, by go_num, HA2, o8, b8⟩
              case measure => simp [intOf]; omega
          · obtain rfl : n = i := by omega
            have aZ : a = Z := by rw [HA.out, AE.out]
            subst aZ
            clear hlt HA hi
            obtain ⟨d, hd⟩ : ∃ d, 4092 - a = d := ⟨_, rfl⟩
            rw [hd] at ZS
            have ed : (4092 : Int) - (a : Int) = (d : Int) := by omega
            have wd : IntKind.i64.wrap (d : Int) = (d : Int) := IntWalk.i64_in _ (by omega)
            obtain ⟨A5, c5, hsl, hrb⟩ := cut_from (A := some ⟨g4, 0, none⟩) (n := 4092) (c := 4092) hsz d hd
            have hsl' : ∀ w, (Instr.sliceAt 34 (.slice (some ⟨g4, 0, none⟩) 4092 4092) (some (.int .i64 (a : Int))) none none).run Try.prog w = .ok (.slice A5 d c5) w := hsl
            obtain ⟨Zc, hZ, MK⟩ := make_fullT d (by omega)
            have ba5 : Below wr.heap.size wr (wr.alloc (.cells Zc 5)).drew := (below1 wr (.cells Zc 5)).drew
            have h5 := (hrb _ _ ob.read).below ba5
            rw [ZS.out] at h5
            have z5 : RB (wr.alloc (.cells Zc 5)).drew (some ⟨wr.heap.size, 0, none⟩) d d (zeros d) := ((hZ wr).below (drew1 _)).read
            have SB := SameBytes_calls _ _ _ _ _ _ _ _ _ h5 z5 true (by simp)
            have b9 := blw_step bb ba5
            have ea : ((a : Int) == (a : Int)) = true := beq_self_eq_true _
            clear hZ hrb hsl ZS hd h5 z5 ba5 ob bb
            go_wp2
            go_region_held3 (fun _ => True) (trivial)
              (first
                | (go_at_call 27; (with_reducible refine SB.mono ?_); rintro en wx ⟨rfl, rfl⟩))
            go_wp2
            go_ret
            exact ⟨rfl, b9⟩
end Go.Proofs.Ytenalocpmigppaa
