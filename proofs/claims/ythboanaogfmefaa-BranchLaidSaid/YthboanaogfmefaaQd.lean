/- coppicelaw5.BranchPlace. -/
import Derived.Test.YthboanaogfmefaaQc
namespace Go.Proofs.Ythboanaogfmefaa
open Go.RowKit

theorem LK.other {w : World} {base n c : Nat} {A : Option Addr} {l : List (Int × Int)} (h : LK w base A n c l) {e sz g m d : Nat} {cs : List Value} (o : OC w e sz g m d cs) (ne : 37 ≠ e) (q : Nat) (u : Value) : LK (w.setCell ⟨g, q, none⟩ u) base A n c l := by
  obtain ⟨g2, rfl, hb, o2⟩ := h
  exact ⟨g2, rfl, hb, o2.same (Sm.setCell w _ _ (by rintro rfl; exact ne (OC.tyy o2 o)))⟩
theorem LM.other {w : World} {base n c gz : Nat} {A : Option Addr} {ps : List (Option Addr × Nat × Nat)} {xss : List (List UInt8)} (h : LM w base A n c ps xss gz) {e sz g m d : Nat} {cs : List Value} (o : OC w e sz g m d cs) (n1 : 28 ≠ e) (n2 : 5 ≠ e) (hz : gz ≠ g) (q : Nat) (u : Value) : LM (w.setCell ⟨g, q, none⟩ u) base A n c ps xss gz := by
  obtain ⟨gr, rfl, gb, orow⟩ := h.block
  refine ⟨GC.same h.row (fun ad e => by cases e; exact Sm.setCell w _ _ (by rintro rfl; exact n1 (OC.tyy orow o))), h.len, ?_, h.inc, h.last.same (fun ad e _ => by cases e; exact Sm.setCell w _ _ hz), h.lz, h.ne⟩
  intro j p xs h1 h2
  obtain ⟨g2, c2, e2, hg2, o2⟩ := h.each j p xs h1 h2
  exact ⟨g2, c2, e2, hg2, o2.same (Sm.setCell w _ _ (by rintro rfl; exact n2 (OC.tyy o2 o)))⟩
theorem kidCells_set (l : List (Int × Int)) (i : Nat) (x y v : Int) (h : l[i]? = some (x, y)) : (kidCells l).set (i * 2 + 1) (.int .i64 v) = kidCells (l.set i (x, v)) := by
  induction l generalizing i with
  | nil => simp at h
  | cons k l ih =>
    cases i with
    | zero => simp at h; subst h; rfl
    | succ i =>
      rw [List.set_cons_succ]
      show (Value.int .i64 k.1 :: Value.int .i64 k.2 :: kidCells l).set ((i + 1) * 2 + 1) _ = Value.int .i64 k.1 :: Value.int .i64 k.2 :: kidCells (l.set i (x, v))
      rw [show (i + 1) * 2 + 1 = (i * 2 + 1) + 1 + 1 by omega, List.set_cons_succ, List.set_cons_succ, ih i (by simpa using h)]
theorem LK.turn {w : World} {base n c g : Nat} {l : List (Int × Int)} (h : LK w base (some ⟨g, 0, none⟩) n c l) (i : Nat) (x y v : Int) (hk : l[i]? = some (x, y)) : LK (w.setCell ⟨g, i * 2 + 1, none⟩ (.int .i64 v)) base (some ⟨g, 0, none⟩) n c (l.set i (x, v)) := by
  obtain ⟨g2, e, hb, o⟩ := h
  cases e
  have hi := (List.getElem?_eq_some_iff.1 hk).1
  have o2 := o.set (i * 2 + 1) (.int .i64 v)
  rw [kidCells_set _ i x y v (by rw [List.getElem?_append_left hi]; exact hk), List.set_append_left _ _ hi] at o2
  exact ⟨g, rfl, hb, o2⟩
set_option maxRecDepth 100000 in
set_option maxHeartbeats 8000000 in
theorem BranchPlace_walk (level : Int) (A : Option Addr) (n c : Nat) (vs : List Value) (l : List (List UInt8)) (B : Option Addr) (m d : Nat) (ks : List (Int × Int)) (ii at_ : Int) (x : UInt8) (w : World) (_hz : -9223372036854775808 ≤ level ∧ level ≤ 9223372036854775807) (h : RM w A n c vs l) (hk : RK w B m d ks) (_hii : -9223372036854775808 ≤ ii ∧ ii ≤ 9223372036854775807) (_hat : -9223372036854775808 ≤ at_ ∧ at_ ≤ 9223372036854775807) :
    Calls Try.prog 5 #[.int .i64 level, .slice A n c, .slice B m d, .int .i64 ii, .int .i64 at_, .int .u8 (x.toNat : Int)] w fun e w' => e = .returned (.bool true) ∧ Below w.heap.size w w' := by
  have FW := fun W q => few_calls A n c vs l B m d W q
  obtain ⟨f, hf⟩ : ∃ f, fewS l m = f := ⟨_, rfl⟩
  rw [hf] at FW
  have HF := hideIt hf
  clear hf
  go_enter Try.func5, Try.ntmps5
  go_upto_region 2 with (go_at_call 12; refine (first_calls _).mono ?_; rintro en w1 ⟨rfl, b1⟩)
  have h1 := h.below b1
  have k1 := hk.below b1
  cases f
  · go_wp2_with (go_at_call 13; refine (FW _ h1).mono ?_; rintro en wx ⟨rfl, rfl⟩)
    go_ret
    exact ⟨rfl, b1⟩
  have ff := few_few HF.out h.len
  have m2 := (few_of HF.out).2.1
  rcases Nat.eq_zero_or_pos m with hm | hm
  · subst hm
    go_wp2_with (go_at_call 13; refine (FW _ h1).mono ?_; rintro en wx ⟨rfl, rfl⟩)
    go_ret
    exact ⟨rfl, b1⟩
  have t0 : ((m : Int) == 0) = false := beq_eq_false_iff_ne.2 (by omega)
  go_upto_region 4 with (go_at_call 13; refine (FW _ h1).mono ?_; rintro en wx ⟨rfl, rfl⟩)
  go_upto_region 5 with (go_at_call 14; refine (lent_calls _ _ _ _ _ _ h1 ff).mono ?_; rintro en w2 ⟨A2, c2, ps, gz, rfl, lm, x2⟩)
  have k2 := k1.below x2
  have b2 := blw_step b1 x2
  have gzl : gz < w2.heap.size := lm.last.block_lt (by decide)
  clear FW h1 k1 h hk
  go_upto_region 6 with (go_at_call 20; refine (lentKids_calls _ _ _ _ _ k2 (by omega)).mono ?_; rintro en w3 ⟨A3, c3, rfl, lk, x3⟩)
  have lm3 := lm.below x3
  have b3 := blw_step b2 x3
  have GZ : ∀ g, w2.heap.size ≤ g → gz ≠ g := fun g q e => by omega
  have HG := hideIt GZ
  have z1 : w.heap.size ≤ w1.heap.size := b1.size
  have z2 : w.heap.size ≤ w2.heap.size := b2.size
  clear lm k2 x2 x3 b1 b2 GZ gzl
  have EN := Encode_calls level _ _ _ _ _ _ _ _ _ _ lm3.read ff lk.read
  generalize encB level l ks = ee at EN
  go_upto_region 7 with (go_at_call 21; refine EN.mono ?_; rintro en w4 ⟨A4, n4, rfl, e4, x4⟩)
  have lm4 := lm3.below x4
  have lk4 := lk.below x4
  have b5 := blw_step b3 x4
  clear EN lm3 lk b3 x4 e4
  rcases Nat.eq_zero_or_pos n with hn | hn
  · subst hn
    go_upto_region 12 with fail
    have LL := lm4
    have F6 := ff
    have LLK := lk4
    have b6 := b5
    generalize l = L6 at LL F6
    clear lm4 ff lk4 b5 HF
    generalize w4 = w6 at LL LLK b6 ⊢
    obtain ⟨r3, i3, hr3, hr31, hr32, hi3, him3⟩ := place ii m hm
    have hi3' : (r3 + (m : Int)) % (m : Int) = (i3 : Int) := by rw [← hi3]; simp
    have i30 : (i3 : Int) < (m : Int) := by omega
    have kl := LLK.len
    obtain ⟨gk, e, gkb, ok⟩ := LLK
    cases e
    obtain ⟨⟨kx, ky⟩, hky⟩ : ∃ k, ks[i3]? = some k := ⟨_, List.getElem?_eq_getElem (by rw [kl]; exact him3)⟩
    have cells := RK.cells (OC.read ok) i3 kx ky (by rw [List.getElem?_append_left (by rw [kl]; exact him3)]; exact hky)
    rw [show (⟨gk, 0, none⟩ : Addr).add (i3 * 2) = ⟨gk, i3 * 2, none⟩ by simp [Addr.add]; omega] at cells
    have ck := cells.2
    simp only at ck
    have fk := ok.free (i3 * 2 + 1)
    have LK7 := fun v => LK.turn (⟨gk, rfl, gkb, ok⟩ : LK w6 w2.heap.size (some ⟨gk, 0, none⟩) m c3 ks) i3 kx ky v hky
    have LM7 := fun v => LL.other ok (by decide) (by decide) (HG.out gk gkb) (i3 * 2 + 1) (.int .i64 v)
    have gx7 := fun v => grownBy_set w6 gk (i3 * 2 + 1) (.int .i64 v)
    have HI3 := hideIt hi3
    have HK7 := hideIt LK7
    have HM7 := hideIt LM7
    have HB7 : Hid (∀ v, Below w.heap.size w (w6.setCell ⟨gk, i3 * 2 + 1, none⟩ (.int .i64 v))) := hideIt fun v => below_grown b6 (gx7 v) b6.size (by intro k hk; cases hk; omega)
    clear hi3 hky cells LK7 LM7 gx7 ok LL b6 kl
    go_upto_region 13 with fail
    generalize hv : wrap64 (ky + 1) = v7
    generalize hw7 : w6.setCell ⟨gk, i3 * 2 + 1, none⟩ (.int .i64 v7) = w7
    have LK8 := HK7.out v7
    have LM8 := HM7.out v7
    have b7 := HB7.out v7
    rw [hw7] at LK8 LM8 b7
    generalize ks.set i3 (kx, v7) = K7 at LK8
    clear hv hw7 HK7 HM7 HB7 HI3 ck fk hr3 hi3' i30 hr31 hr32 him3
    go_upto_region 14 with (go_at_call 18; refine (ByteLists_calls _ _ _ _ _ _ LM8.read F6).mono ?_; rintro en w8 ⟨A8, c8, ps8, rfl, om8, x8⟩)
    have lm8 := LM8.below x8
    have lk8 := LK8.below x8
    have b8 := blw_step b7 x8
    clear LM8 LK8 b7 x8
    go_upto_region 15 with (go_at_call 22; refine (Kids_calls _ _ _ _ _ lk8.read (by omega)).mono ?_; rintro en w9 ⟨A9, c9, rfl, gk9, x9⟩)
    have lm9 := lm8.below x9
    have lk9 := lk8.below x9
    have om9 := om8.below x9
    have b9 := blw_step b8 x9
    clear lm8 lk8 om8 b8 x9
    obtain ⟨bd, cd, E1, E2⟩ := enc_two level L6 K7
    have EN := E1 _ _ _ _ _ _ _ _ lm9.read F6 lk9.read
    clear E1
    go_upto_region 16 with (go_at_call 21; refine EN.mono ?_; rintro en wa ⟨Aa, na, rfl, ea, xa⟩)
    have oma := om9.below xa
    have gka : GK wa _ A9 m c9 K7 := GC.below gk9 xa
    have ba := blw_step b9 xa
    clear EN lm9 lk9 om9 gk9 b9 xa
    have EN := E2 _ _ _ _ _ _ _ _ oma.read F6 (GK.read gka)
    clear E2
    go_upto_region 17 with (go_at_call 23; refine EN.mono ?_; rintro en wb ⟨Ab, nb, rfl, eb, xb⟩)
    have bb := blw_step ba xb
    have ra := (GB.below ea xb).read
    have rb := eb.read
    clear EN oma gka ba xb ea eb
    go_wp2_with (first
      | (go_at_call 24; refine (SameBytes_calls _ _ _ _ _ _ _ _ _ ra rb true (by simp)).mono ?_; rintro en wx ⟨rfl, rfl⟩)
      | (go_at_call 25; refine (num_calls _ _).mono ?_; rintro en wx ⟨rfl, rfl⟩))
    go_ret
    exact ⟨rfl, bb⟩
  have n7 := ff.n
  have t1 : decide ((0 : Int) < (n : Int)) = true := decide_eq_true (by omega)
  obtain ⟨r, i, hr, hr1, hr2, hi, hin⟩ := place ii n hn
  have i0 : (i : Int) < (n : Int) := by omega
  have hi' : (r + (n : Int)) % (n : Int) = (i : Int) := by rw [← hi]; simp
  go_upto_region 9 with fail
  obtain ⟨gr, rfl, gb, orow⟩ := lm4.block
  obtain ⟨p, hp⟩ : ∃ p, ps[i]? = some p := ⟨_, List.getElem?_eq_getElem (by rw [lm4.n]; exact hin)⟩
  obtain ⟨s, hs⟩ : ∃ s, l[i]? = some s := ⟨_, List.getElem?_eq_getElem (by rw [← lm4.len, lm4.n]; exact hin)⟩
  obtain ⟨g, cg, rfl, hg, o⟩ := lm4.each i p s hp hs
  have cell := OC.cell orow i (sv (some ⟨g, 0, none⟩, s.length, cg)) (by rw [List.getElem?_append_left (by rw [List.length_map, lm4.n]; exact hin), List.getElem?_map, hp]; rfl)
  unfold sv at cell
  simp only at cell
  have sl := ff.s s (List.mem_of_getElem? hs)
  obtain ⟨sn, hsn⟩ : ∃ sn, s.length = sn := ⟨_, rfl⟩
  have HM := hideIt hsn
  have oc := OC.le o
  rw [hsn] at cell sl oc
  have HP := hideIt hp
  have HS := hideIt hs
  have HI := hideIt hi
  clear hsn hi hr hp hs
  rcases Nat.eq_zero_or_pos sn with hm0 | hm0
  · subst hm0
    go_upto_region 12 with fail
    clear o orow HP HS HI HM cell oc sl hi' i0 hr1 hr2 hin
    have LL := lm4
    have F6 := ff
    have LLK := lk4
    have b6 := b5
    generalize l = L6 at LL F6
    clear lm4 ff lk4 b5 HF
    generalize w4 = w6 at LL LLK b6 ⊢
    obtain ⟨r3, i3, hr3, hr31, hr32, hi3, him3⟩ := place ii m hm
    have hi3' : (r3 + (m : Int)) % (m : Int) = (i3 : Int) := by rw [← hi3]; simp
    have i30 : (i3 : Int) < (m : Int) := by omega
    have kl := LLK.len
    obtain ⟨gk, e, gkb, ok⟩ := LLK
    cases e
    obtain ⟨⟨kx, ky⟩, hky⟩ : ∃ k, ks[i3]? = some k := ⟨_, List.getElem?_eq_getElem (by rw [kl]; exact him3)⟩
    have cells := RK.cells (OC.read ok) i3 kx ky (by rw [List.getElem?_append_left (by rw [kl]; exact him3)]; exact hky)
    rw [show (⟨gk, 0, none⟩ : Addr).add (i3 * 2) = ⟨gk, i3 * 2, none⟩ by simp [Addr.add]; omega] at cells
    have ck := cells.2
    simp only at ck
    have fk := ok.free (i3 * 2 + 1)
    have LK7 := fun v => LK.turn (⟨gk, rfl, gkb, ok⟩ : LK w6 w2.heap.size (some ⟨gk, 0, none⟩) m c3 ks) i3 kx ky v hky
    have LM7 := fun v => LL.other ok (by decide) (by decide) (HG.out gk gkb) (i3 * 2 + 1) (.int .i64 v)
    have gx7 := fun v => grownBy_set w6 gk (i3 * 2 + 1) (.int .i64 v)
    have HI3 := hideIt hi3
    have HK7 := hideIt LK7
    have HM7 := hideIt LM7
    have HB7 : Hid (∀ v, Below w.heap.size w (w6.setCell ⟨gk, i3 * 2 + 1, none⟩ (.int .i64 v))) := hideIt fun v => below_grown b6 (gx7 v) b6.size (by intro k hk; cases hk; omega)
    clear hi3 hky cells LK7 LM7 gx7 ok LL b6 kl
    go_upto_region 13 with fail
    generalize hv : wrap64 (ky + 1) = v7
    generalize hw7 : w6.setCell ⟨gk, i3 * 2 + 1, none⟩ (.int .i64 v7) = w7
    have LK8 := HK7.out v7
    have LM8 := HM7.out v7
    have b7 := HB7.out v7
    rw [hw7] at LK8 LM8 b7
    generalize ks.set i3 (kx, v7) = K7 at LK8
    clear hv hw7 HK7 HM7 HB7 HI3 ck fk hr3 hi3' i30 hr31 hr32 him3
    go_upto_region 14 with (go_at_call 18; refine (ByteLists_calls _ _ _ _ _ _ LM8.read F6).mono ?_; rintro en w8 ⟨A8, c8, ps8, rfl, om8, x8⟩)
    have lm8 := LM8.below x8
    have lk8 := LK8.below x8
    have b8 := blw_step b7 x8
    clear LM8 LK8 b7 x8
    go_upto_region 15 with (go_at_call 22; refine (Kids_calls _ _ _ _ _ lk8.read (by omega)).mono ?_; rintro en w9 ⟨A9, c9, rfl, gk9, x9⟩)
    have lm9 := lm8.below x9
    have lk9 := lk8.below x9
    have om9 := om8.below x9
    have b9 := blw_step b8 x9
    clear lm8 lk8 om8 b8 x9
    obtain ⟨bd, cd, E1, E2⟩ := enc_two level L6 K7
    have EN := E1 _ _ _ _ _ _ _ _ lm9.read F6 lk9.read
    clear E1
    go_upto_region 16 with (go_at_call 21; refine EN.mono ?_; rintro en wa ⟨Aa, na, rfl, ea, xa⟩)
    have oma := om9.below xa
    have gka : GK wa _ A9 m c9 K7 := GC.below gk9 xa
    have ba := blw_step b9 xa
    clear EN lm9 lk9 om9 gk9 b9 xa
    have EN := E2 _ _ _ _ _ _ _ _ oma.read F6 (GK.read gka)
    clear E2
    go_upto_region 17 with (go_at_call 23; refine EN.mono ?_; rintro en wb ⟨Ab, nb, rfl, eb, xb⟩)
    have bb := blw_step ba xb
    have ra := (GB.below ea xb).read
    have rb := eb.read
    clear EN oma gka ba xb ea eb
    go_wp2_with (first
      | (go_at_call 24; refine (SameBytes_calls _ _ _ _ _ _ _ _ _ ra rb true (by simp)).mono ?_; rintro en wx ⟨rfl, rfl⟩)
      | (go_at_call 25; refine (num_calls _ _).mono ?_; rintro en wx ⟨rfl, rfl⟩))
    go_ret
    exact ⟨rfl, bb⟩
  have t2 : decide ((0 : Int) < (sn : Int)) = true := decide_eq_true (by omega)
  obtain ⟨r2, q, hr2', hr21, hr22, hq, hqm⟩ := place at_ sn hm0
  have hq' : (r2 + (sn : Int)) % (sn : Int) = (q : Int) := by rw [← hq]; simp
  have q0 : (q : Int) < (sn : Int) := by omega
  obtain ⟨y, hy⟩ : ∃ y, (s ++ [201, 202]).getD q 0 = y := ⟨_, rfl⟩
  have HY := hideIt hy
  have cq := byte_cell o (q := q) (by rw [HM.out]; omega) HY
  have fq := OB.free o q
  clear hy
  go_wp2
  have F6 : Few n (l.set i (s.set q (y ^^^ x))) := ff.set i _ (by rw [List.length_set, HM.out]; exact sl)
  have LT := lm4.turn i q g cg s (y ^^^ x) HP.out HS.out (by rw [HM.out]; exact hqm)
  rw [← bits_xor8] at LT
  have KT := lk4.other o (by decide) q (.int .u8 (bits .xor .u8 (y.toNat : Int) (x.toNat : Int)))
  have gx := grownBy_set w4 g q (.int .u8 (bits .xor .u8 (y.toNat : Int) (x.toNat : Int)))
  have b6' := below_grown b5 gx b5.size (by intro k hk; cases hk; omega)
  generalize l.set i (s.set q (y ^^^ x)) = L6 at LT F6
  go_region
  go_upto_region 12 with fail
  have LL := LT.below (drew1 _)
  have LLK := KT.below (drew1 _)
  have b6 := b6'.drew
  generalize (w4.setCell ⟨g, q, none⟩ (.int .u8 (bits .xor .u8 (y.toNat : Int) (x.toNat : Int)))).drew = w6 at LL LLK b6 ⊢
  clear LT KT gx b6' cq fq hq' q0 cell orow o hr2' hq lm4 lk4 ff b5 HF HS HP HI HY HM oc sl hi' i0 hr1 hr2 hin
  obtain ⟨r3, i3, hr3, hr31, hr32, hi3, him3⟩ := place ii m hm
  have hi3' : (r3 + (m : Int)) % (m : Int) = (i3 : Int) := by rw [← hi3]; simp
  have i30 : (i3 : Int) < (m : Int) := by omega
  have kl := LLK.len
  obtain ⟨gk, e, gkb, ok⟩ := LLK
  cases e
  obtain ⟨⟨kx, ky⟩, hky⟩ : ∃ k, ks[i3]? = some k := ⟨_, List.getElem?_eq_getElem (by rw [kl]; exact him3)⟩
  have cells := RK.cells (OC.read ok) i3 kx ky (by rw [List.getElem?_append_left (by rw [kl]; exact him3)]; exact hky)
  rw [show (⟨gk, 0, none⟩ : Addr).add (i3 * 2) = ⟨gk, i3 * 2, none⟩ by simp [Addr.add]; omega] at cells
  have ck := cells.2
  simp only at ck
  have fk := ok.free (i3 * 2 + 1)
  have LK7 := fun v => LK.turn (⟨gk, rfl, gkb, ok⟩ : LK w6 w2.heap.size (some ⟨gk, 0, none⟩) m c3 ks) i3 kx ky v hky
  have LM7 := fun v => LL.other ok (by decide) (by decide) (HG.out gk gkb) (i3 * 2 + 1) (.int .i64 v)
  have gx7 := fun v => grownBy_set w6 gk (i3 * 2 + 1) (.int .i64 v)
  have HI3 := hideIt hi3
  have HK7 := hideIt LK7
  have HM7 := hideIt LM7
  have HB7 : Hid (∀ v, Below w.heap.size w (w6.setCell ⟨gk, i3 * 2 + 1, none⟩ (.int .i64 v))) := hideIt fun v => below_grown b6 (gx7 v) b6.size (by intro k hk; cases hk; omega)
  clear hi3 hky cells LK7 LM7 gx7 ok LL b6 kl
  go_upto_region 13 with fail
  generalize hv : wrap64 (ky + 1) = v7
  generalize hw7 : w6.setCell ⟨gk, i3 * 2 + 1, none⟩ (.int .i64 v7) = w7
  have LK8 := HK7.out v7
  have LM8 := HM7.out v7
  have b7 := HB7.out v7
  rw [hw7] at LK8 LM8 b7
  generalize ks.set i3 (kx, v7) = K7 at LK8
  clear hv hw7 HK7 HM7 HB7 HI3 ck fk hr3 hi3' i30 hr31 hr32 him3
  go_upto_region 14 with (go_at_call 18; refine (ByteLists_calls _ _ _ _ _ _ LM8.read F6).mono ?_; rintro en w8 ⟨A8, c8, ps8, rfl, om8, x8⟩)
  have lm8 := LM8.below x8
  have lk8 := LK8.below x8
  have b8 := blw_step b7 x8
  clear LM8 LK8 b7 x8
  go_upto_region 15 with (go_at_call 22; refine (Kids_calls _ _ _ _ _ lk8.read (by omega)).mono ?_; rintro en w9 ⟨A9, c9, rfl, gk9, x9⟩)
  have lm9 := lm8.below x9
  have lk9 := lk8.below x9
  have om9 := om8.below x9
  have b9 := blw_step b8 x9
  clear lm8 lk8 om8 b8 x9
  obtain ⟨bd, cd, E1, E2⟩ := enc_two level L6 K7
  have EN := E1 _ _ _ _ _ _ _ _ lm9.read F6 lk9.read
  clear E1
  go_upto_region 16 with (go_at_call 21; refine EN.mono ?_; rintro en wa ⟨Aa, na, rfl, ea, xa⟩)
  have oma := om9.below xa
  have gka : GK wa _ A9 m c9 K7 := GC.below gk9 xa
  have ba := blw_step b9 xa
  clear EN lm9 lk9 om9 gk9 b9 xa
  have EN := E2 _ _ _ _ _ _ _ _ oma.read F6 (GK.read gka)
  clear E2
  go_upto_region 17 with (go_at_call 23; refine EN.mono ?_; rintro en wb ⟨Ab, nb, rfl, eb, xb⟩)
  have bb := blw_step ba xb
  have ra := (GB.below ea xb).read
  have rb := eb.read
  clear EN oma gka ba xb ea eb
  go_wp2_with (first
    | (go_at_call 24; refine (SameBytes_calls _ _ _ _ _ _ _ _ _ ra rb true (by simp)).mono ?_; rintro en wx ⟨rfl, rfl⟩)
    | (go_at_call 25; refine (num_calls _ _).mono ?_; rintro en wx ⟨rfl, rfl⟩))
  go_ret
  exact ⟨rfl, bb⟩
end Go.Proofs.Ythboanaogfmefaa
