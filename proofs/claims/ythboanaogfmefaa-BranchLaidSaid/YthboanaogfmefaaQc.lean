/- coppicelaw5.BranchSizes: a byte of lent separators turned. -/
import Derived.Test.YthboanaogfmefaaPy
import Derived.RegionTactic
namespace Go.Proofs.Ythboanaogfmefaa
open Go.RowKit

theorem LM.block {w : World} {base n c gz : Nat} {A : Option Addr} {ps : List (Option Addr × Nat × Nat)} {xss : List (List UInt8)} (h : LM w base A n c ps xss gz) : ∃ gr, A = some ⟨gr, 0, none⟩ ∧ base ≤ gr ∧ OC w 28 1 gr (n + 1) c (ps.map sv ++ [.slice (some ⟨gz, 0, none⟩) 1 1]) := by
  rcases GC.oc h.row with ⟨_, q, _⟩ | ⟨gr, e, gb, orow⟩
  · omega
  · exact ⟨gr, e, gb, orow⟩
/-- One byte of one lent string written anew. -/
theorem LM.turn {w : World} {base n c gz : Nat} {A : Option Addr} {ps : List (Option Addr × Nat × Nat)} {xss : List (List UInt8)} (h : LM w base A n c ps xss gz) (i q g cg : Nat) (s : List UInt8) (b : UInt8) (hp : ps[i]? = some (some ⟨g, 0, none⟩, s.length, cg)) (hs : xss[i]? = some s) (hq : q < s.length) :
    LM (w.setCell ⟨g, q, none⟩ (.int .u8 (b.toNat : Int))) base A n c ps (xss.set i (s.set q b)) gz := by
  obtain ⟨gr, rfl, gb, orow⟩ := h.block
  obtain ⟨g0, c0, e, hg, o⟩ := h.each i _ s hp hs
  cases e
  have n1 : gr ≠ g := by
    rintro rfl
    exact absurd (OC.tyy o orow) (by decide)
  have n2 : gz ≠ g := fun e => h.ne _ (List.mem_of_getElem? hp) ⟨g, 0, none⟩ rfl e.symm
  have hpw := List.pairwise_iff_getElem.1 h.inc
  have hil := (List.getElem?_eq_some_iff.1 hp).1
  have hpi : ps[i] = (some ⟨g, 0, none⟩, s.length, cg) := (List.getElem?_eq_some_iff.1 hp).2
  refine ⟨GC.same h.row (fun ad e => by cases e; exact Sm.setCell w _ _ n1), by rw [List.length_set]; exact h.len, ?_, h.inc, h.last.same (fun ad e _ => by cases e; exact Sm.setCell w _ _ n2), h.lz, h.ne⟩
  intro j p xs h1 h2
  rw [List.getElem?_set] at h2
  by_cases hij : i = j
  · subst hij
    rw [if_pos rfl] at h2
    split at h2
    · cases h2
      rw [hp] at h1
      cases h1
      have o2 := OB.set o q b
      rw [List.set_append_left _ _ hq] at o2
      exact ⟨g, cg, by rw [List.length_set], hg, by rw [List.length_set]; exact o2⟩
    · cases h2
  · rw [if_neg hij] at h2
    obtain ⟨g2, c2, e2, hg2, o2⟩ := h.each j p xs h1 h2
    have hjl := (List.getElem?_eq_some_iff.1 h1).1
    have hpj : ps[j] = p := (List.getElem?_eq_some_iff.1 h1).2
    have ne : g2 ≠ g := by
      rcases Nat.lt_or_gt_of_ne hij with hl | hl
      · have := hpw i j hil hjl hl ⟨g, 0, none⟩ ⟨g2, 0, none⟩ (by rw [hpi]) (by rw [hpj, e2])
        exact fun e => this e.symm
      · exact hpw j i hjl hil hl ⟨g2, 0, none⟩ ⟨g, 0, none⟩ (by rw [hpj, e2]) (by rw [hpi])
    exact ⟨g2, c2, e2, hg2, o2.same (Sm.setCell w _ _ ne)⟩
theorem Few.set {n : Nat} {l : List (List UInt8)} (h : Few n l) (i : Nat) (s : List UInt8) (hs : s.length ≤ 10000) : Few n (l.set i s) :=
  ⟨h.n, fun x hx => by
    rcases List.mem_or_eq_of_mem_set hx with q | q
    · exact h.s x q
    · rw [q]; exact hs⟩
theorem below_grown {B : Nat} {w w1 w' : World} {row : Option Nat} (b : Below B w w1) (h : w1.grownBy w' row) (hB : B ≤ w1.heap.size) (hr : ∀ k, row = some k → B ≤ k) : Below B w w' := b.trans (below_of_grown h hB hr)

set_option maxRecDepth 100000 in
set_option maxHeartbeats 4000000 in
theorem BranchSizes_walk (A : Option Addr) (n c : Nat) (vs : List Value) (l : List (List UInt8)) (ii at_ : Int) (x : UInt8) (w : World) (h : RM w A n c vs l) (_hii : -9223372036854775808 ≤ ii ∧ ii ≤ 9223372036854775807) (_hat : -9223372036854775808 ≤ at_ ∧ at_ ≤ 9223372036854775807) :
    Calls Try.prog 3 #[.slice A n c, .int .i64 ii, .int .i64 at_, .int .u8 (x.toNat : Int)] w fun e w' => e = .returned (.bool true) ∧ Below w.heap.size w w' := by
  have FW := fun W q => few_calls A n c vs l none 0 0 W q
  obtain ⟨f, hf⟩ : ∃ f, fewS l 0 = f := ⟨_, rfl⟩
  rw [hf] at FW
  have HF := hideIt hf
  clear hf
  go_enter Try.func3, Try.ntmps3
  go_upto_region 2 with (go_at_call 12; refine (first_calls _).mono ?_; rintro en w1 ⟨rfl, b1⟩)
  have h1 := h.below b1
  cases f
  · go_wp2_with (go_at_call 13; refine (FW _ h1).mono ?_; rintro en wx ⟨rfl, rfl⟩)
    go_ret
    exact ⟨rfl, b1⟩
  · have ff := few_few HF.out h.len
    go_upto_region 5 with (first
      | (go_at_call 13; refine (FW _ h1).mono ?_; rintro en wx ⟨rfl, rfl⟩)
      | (go_at_call 14; refine (lent_calls _ _ _ _ _ _ h1 ff).mono ?_; rintro en w2 ⟨A2, c2, ps, gz, rfl, lm, x2⟩))
    have h2 := h1.below x2
    have b2 := blw_step b1 x2
    have zb : w.heap.size ≤ w1.heap.size := b1.size
    clear FW h1 h b1
    have S1 := Size_calls _ _ _ _ _ _ lm.read ff
    have S2 := fun W q => refSize_calls A n c vs l W q ff
    generalize sizeS l = Z at S1 S2
    go_upto_region 6 with (first
      | (go_at_call 15; refine S1.mono ?_; rintro en w3 ⟨rfl, x3⟩; have h3 := h2.below x3; have lm3 := lm.below x3; have b3 := blw_step b2 x3)
      | (go_at_call 16; refine (S2 _ h3).mono ?_; rintro en w4 ⟨rfl, j4, e4⟩; have h4 := h3.below (below_at (below_drewN (Below.refl _ _) j4) e4); have lm4 := lm3.below (below_at (below_drewN (Below.refl _ _) j4) e4); have b4 := below_at (below_drewN b3 j4) e4; clear e4))
    clear S1 S2 h2 lm h3 lm3 b3 b2
    have S1 := stays_calls _ _ _ _ _ _ _ _ _ _ _ lm4 h4 ff
    go_upto_region 7 with (go_at_call 17; refine S1.mono ?_; rintro en w5 ⟨rfl, j5, e5⟩; have lm5 := lm4.below (below_at (below_drewN (Below.refl _ _) j5) e5); have b5 := below_at (below_drewN b4 j5) e5; clear e5)
    clear S1 h4 lm4 b4 x2
    rcases Nat.eq_zero_or_pos n with hn | hn
    · subst hn
      go_wp2
      go_ret
      exact ⟨rfl, b5⟩
    · have n7 := ff.n
      have t1 : ((n : Int) == 0) = false := beq_eq_false_iff_ne.2 (by omega)
      obtain ⟨r, i, hr, hr1, hr2, hi, hin⟩ := place ii n hn
      have i0 : (i : Int) < (n : Int) := by omega
      have hi' : (r + (n : Int)) % (n : Int) = (i : Int) := by rw [← hi]; simp
      go_upto_region 10 with fail
      obtain ⟨gr, rfl, gb, orow⟩ := lm5.block
      obtain ⟨p, hp⟩ : ∃ p, ps[i]? = some p := ⟨_, List.getElem?_eq_getElem (by rw [lm5.n]; exact hin)⟩
      obtain ⟨s, hs⟩ : ∃ s, l[i]? = some s := ⟨_, List.getElem?_eq_getElem (by rw [← lm5.len, lm5.n]; exact hin)⟩
      obtain ⟨g, cg, rfl, hg, o⟩ := lm5.each i p s hp hs
      have cell := OC.cell orow i (sv (some ⟨g, 0, none⟩, s.length, cg)) (by rw [List.getElem?_append_left (by rw [List.length_map, lm5.n]; exact hin), List.getElem?_map, hp]; rfl)
      unfold sv at cell
      simp only at cell
      have sl := ff.s s (List.mem_of_getElem? hs)
      obtain ⟨m, hm⟩ : ∃ m, s.length = m := ⟨_, rfl⟩
      have HM := hideIt hm
      have oc := OC.le o
      rw [hm] at cell sl oc
      have HP := hideIt hp
      have HS := hideIt hs
      have HI := hideIt hi
      clear hm hi hr hp hs
      rcases Nat.eq_zero_or_pos m with hm0 | hm0
      · subst hm0
        have BL := ByteLists_calls
        have LL := lm5
        have F6 := ff
        have b6 := b5
        generalize l = L6 at LL F6
        clear o orow lm5 ff b5 HF HS HP
        go_upto_region 14 with (go_at_call 18; refine (BL _ _ _ _ _ _ LL.read F6).mono ?_; rintro en w7 ⟨A7, c7, ps7, rfl, om, x7⟩)
        have l7 := LL.below x7
        have b7 := blw_step b6 x7
        clear BL LL x7 b6
        have S1 := Size_calls _ _ _ _ _ _ l7.read F6
        have S2 := fun (A : Option Addr) (n c : Nat) (vs : List Value) (W : World) (q : RM W A n c vs L6) (f : Few n L6) => refSize_calls A n c vs L6 W q f
        generalize sizeS L6 = Z6 at S1 S2
        go_wp2_with (first
          | (go_at_call 15; refine S1.mono ?_; rintro en w8 ⟨rfl, x8⟩; have om8 := (om.below x8).read; have b8 := blw_step b7 x8)
          | (go_at_call 16; refine (S2 _ _ _ _ _ om8 F6).mono ?_; rintro en w9 ⟨rfl, j9, e9⟩; have b9 := below_at (below_drewN b8 j9) e9; clear e9))
        go_ret
        exact ⟨rfl, b9⟩
      · have t2 : decide ((0 : Int) < (m : Int)) = true := decide_eq_true (by omega)
        obtain ⟨r2, q, hr2, hr21, hr22, hq, hqm⟩ := place at_ m hm0
        have hq' : (r2 + (m : Int)) % (m : Int) = (q : Int) := by rw [← hq]; simp
        have q0 : (q : Int) < (m : Int) := by omega
        obtain ⟨y, hy⟩ : ∃ y, (s ++ [201, 202]).getD q 0 = y := ⟨_, rfl⟩
        have HY := hideIt hy
        have cq := byte_cell o (q := q) (by rw [HM.out]; omega) HY
        have fq := OB.free o q
        clear hy
        go_wp2
        have F6 : Few n (l.set i (s.set q (y ^^^ x))) := ff.set i _ (by rw [List.length_set, HM.out]; exact sl)
        have LT := lm5.turn i q g cg s (y ^^^ x) HP.out HS.out (by rw [HM.out]; exact hqm)
        rw [← bits_xor8] at LT
        have gx := grownBy_set w5 g q (.int .u8 (bits .xor .u8 (y.toNat : Int) (x.toNat : Int)))
        have b6 := below_grown b5 gx b5.size (by intro k hk; cases hk; omega)
        generalize l.set i (s.set q (y ^^^ x)) = L6 at LT F6
        go_region
        go_upto_region 13 with fail
        have LL := LT.below (drew1 _)
        have b7 := b6.drew
        generalize (w5.setCell ⟨g, q, none⟩ (.int .u8 (bits .xor .u8 (y.toNat : Int) (x.toNat : Int)))).drew = w6 at LL b7 ⊢
        have b6 := b7
        have BL := ByteLists_calls
        clear LT gx b7 cq fq hq' q0 cell orow o hr2 hq lm5 ff b5 HF HS HP HI HY HM
        go_upto_region 14 with (go_at_call 18; refine (BL _ _ _ _ _ _ LL.read F6).mono ?_; rintro en w7 ⟨A7, c7, ps7, rfl, om, x7⟩)
        have l7 := LL.below x7
        have b7 := blw_step b6 x7
        clear BL LL x7 b6
        have S1 := Size_calls _ _ _ _ _ _ l7.read F6
        have S2 := fun (A : Option Addr) (n c : Nat) (vs : List Value) (W : World) (q : RM W A n c vs L6) (f : Few n L6) => refSize_calls A n c vs L6 W q f
        generalize sizeS L6 = Z6 at S1 S2
        go_wp2_with (first
          | (go_at_call 15; refine S1.mono ?_; rintro en w8 ⟨rfl, x8⟩; have om8 := (om.below x8).read; have b8 := blw_step b7 x8)
          | (go_at_call 16; refine (S2 _ _ _ _ _ om8 F6).mono ?_; rintro en w9 ⟨rfl, j9, e9⟩; have b9 := below_at (below_drewN b8 j9) e9; clear e9))
        go_ret
        exact ⟨rfl, b9⟩
end Go.Proofs.Ythboanaogfmefaa
