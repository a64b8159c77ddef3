/- coppicelaw4.LeafSizes, coppicelaw4.LeafEncodes. -/
import Derived.Test.YtieoleiokjoccaaGd
import Derived.Test.YtieoleiokjoccaaGe
namespace Go.Proofs.Ytieoleiokjoccaa
open Go.RowKit

theorem SameL.trans {a b c : List It} (h : SameL a b) (k : SameL b c) : SameL a c := ⟨h.1.trans k.1, fun i x z hx hz => by
  have hl : i < b.length := by rw [← h.1]; exact (List.getElem?_eq_some_iff.1 hx).1
  have hy : b[i]? = some b[i] := List.getElem?_eq_getElem hl
  obtain ⟨e1, e2, e3, e4⟩ := h.2 i x _ hx hy
  obtain ⟨f1, f2, f3, f4⟩ := k.2 i _ z hy hz
  exact ⟨e1.trans f1, e2.trans f2, e3.trans f3, e4.trans f4⟩⟩
theorem refSizeB (A : Option Addr) (n c : Nat) (vs : List Value) (l : List It) (w : World) (h : RT w A n c vs l) (hf : FewT n l) :
    Calls Try.prog 17 #[.slice A n c] w fun e w' => e = .returned (.int .i64 (sizeT l : Nat)) ∧ Below w.heap.size w w' :=
  (refSize_calls A n c vs l w h hf).mono fun _ _ ⟨e, j, hj⟩ => ⟨e, by rw [hj]; exact ⟨rfl, rfl, rfl, Nat.le_refl _, fun _ _ => rfl⟩⟩
theorem LX.blocks {w : World} {base R n c : Nat} {zs : List Cel} (h : LX w base R n c zs) : ∀ s ∈ slots zs, ∀ a, s.1 = some a → a.block < w.heap.size := by
  intro s hs a e
  obtain ⟨z, hz, q⟩ := slots_of hs
  rcases q with rfl | rfl
  · exact ((h.each z hz).1.lt a e).1
  · exact ((h.each z hz).2.lt a e).1
theorem LX.lentApart {w w' : World} {base R n c gm : Nat} {zs : List Cel} {cs : List Value} (h : LX w base R n c zs) (ap : Apart zs w w') (o : OC w 26 2 gm 1 1 cs) : OC w' 26 2 gm 1 1 cs :=
  o.same (ap gm o.lt (fun s hs a e q => by
    obtain ⟨z, hz, qz⟩ := slots_of hs
    obtain ⟨⟨g, cg, e1, -, o1⟩, ⟨g', cg', e2, -, o2⟩⟩ := h.each z hz
    rcases qz with rfl | rfl
    · rw [e1] at e; cases e; subst q; exact absurd (OC.tyy o o1) (by decide)
    · rw [e2] at e; cases e; subst q; exact absurd (OC.tyy o o2) (by decide)))
theorem LikeC.same {zs zs6 : List Cel} {l : List It} (hz : its zs = l) (lk6 : LikeC zs6 zs) : SameL l (its zs6) := by
  rw [← hz]
  refine ⟨by rw [its_length, its_length, lk6.1], fun i x y hx hy => ?_⟩
  unfold its at hx hy
  rw [List.getElem?_map] at hx hy
  rcases hz1 : zs[i]? with _ | z1
  · rw [hz1] at hx; cases hx
  · rcases hz2 : zs6[i]? with _ | z2
    · rw [hz2] at hy; cases hy
    · rw [hz1] at hx; rw [hz2] at hy; cases hx; cases hy
      obtain ⟨-, -, q3, q4, q5, q6⟩ := lk6.2 i z2 z1 hz2 hz1
      exact ⟨q3.symm, q4.symm, q5.symm, q6.symm⟩
end Go.Proofs.Ytieoleiokjoccaa
/- coppicelaw4.LeafEncodes. -/
namespace Go.Proofs.Ytieoleiokjoccaa
open Go.RowKit

set_option maxRecDepth 100000 in
set_option maxHeartbeats 4000000 in
theorem LeafEncodes_walk (A : Option Addr) (n c : Nat) (vs : List Value) (l : List It) (ii : Int) (w : World) (h : RT w A n c vs l) (_hii : -9223372036854775808 ≤ ii ∧ ii ≤ 9223372036854775807) :
    Calls Try.prog 4 #[.slice A n c, .int .i64 ii] w fun e w' => e = .returned (.bool true) ∧ Below w.heap.size w w' := by
  have F1 := fun W q => short_calls A n c vs l W q
  obtain ⟨f, hf⟩ : ∃ f, shortT l = f := ⟨_, rfl⟩
  rw [hf] at F1
  have HF := hideIt hf
  have HL := hideIt h.len
  clear hf
  go_enter Try.func4, Try.ntmps4
  go_upto_region 2 with (go_at_call 11; refine (first_calls _).mono ?_; rintro en w1 ⟨rfl, b1⟩)
  have h1 := h.below b1
  cases f
  · go_wp2_with (go_at_call 12; (with_reducible refine (F1 _ h1).mono ?_); rintro en wx ⟨rfl, rfl⟩)
    go_ret
    exact ⟨rfl, b1⟩
  have n7 := (short_of HF.out).1
  rw [HL.out] at n7
  have SH : ShT l := ⟨(short_of HF.out).2⟩
  have ff := short_few HF.out HL.out
  go_upto_region 4 with (go_at_call 12; (with_reducible refine (F1 _ h1).mono ?_); rintro en wx ⟨rfl, rfl⟩)
  clear F1
  have LD := lend_calls _ _ _ _ _ _ h1 n7 SH
  go_upto_region 5 with (go_at_call 13; (with_reducible refine LD.mono ?_); rintro en w2 ⟨R, c2, zs, rfl, lx2, hz, y2⟩)
  have h2 := h1.below y2
  have b2 := blw_step b1 y2
  have cle := lx2.row.le
  have HZ := hideIt hz
  have zb := b1.size
  clear LD h1 hz
  have am := below1 w2 (.cells #[.slice (some ⟨R, 0, none⟩) (n + 1) c2, .int .i64 (n : Int)] 26)
  have m2 : OC (w2.alloc (.cells #[.slice (some ⟨R, 0, none⟩) (n + 1) c2, .int .i64 (n : Int)] 26)) 26 2 w2.heap.size 1 1 [.slice (some ⟨R, 0, none⟩) (n + 1) c2, .int .i64 (n : Int)] := OC.mk rfl _ (heap_alloc_new w2 _) (Nat.le_refl _) (by rw [maxLen_is]; omega) rfl rfl
  have lx3 := lx2.below am
  have h3 := h2.below am
  have b3 := blw_step b2 am
  have bs3 : w1.heap.size ≤ (w2.alloc (.cells #[.slice (some ⟨R, 0, none⟩) (n + 1) c2, .int .i64 (n : Int)] 26)).heap.size := Nat.le_trans y2.size am.size
  clear lx2 h2 b2 am y2
  generalize w2.alloc (.cells #[.slice (some ⟨R, 0, none⟩) (n + 1) c2, .int .i64 (n : Int)] 26) = w3 at m2 lx3 h3 b3 bs3 ⊢
  generalize w2.heap.size = gm at m2 ⊢
  obtain ⟨a0, a1⟩ := m2.lent2
  have OF := fun W => of_calls R n c2 W cle n7
  have SZ := fun W (x : LX W w1.heap.size R n c2 zs) q => encodes_calls (some ⟨R, 0, none⟩) A n (n + 1) c (itvs zs) vs l W (by have := x.read (c2 := n + 1) (by omega) cle; rw [HZ.out] at this; exact this) q n7
  go_upto_region 6 with (first
    | (go_at_call 20; (refine (SZ _ lx4 h4).mono ?_); rintro en w5 ⟨rfl, y5⟩)
    | (go_at_call 15; (with_reducible refine (OF _).mono ?_); rintro en w4 ⟨rfl, y4⟩; have lx4 := lx3.below y4; have h4 := h3.below y4))
  have lx5 := lx4.below y5
  have y45 := blw_step y4 y5
  have h5 := h3.below y45
  have b5 := blw_step b3 y45
  have m5 := m2.below y45
  have bs5 := Nat.le_trans bs3 y45.size
  clear SZ lx3 lx4 h3 h4 b3 y4 y5 y45 m2 bs3 a0 a1
  obtain ⟨a0, a1⟩ := m5.lent2
  have HD := held_calls w1.heap.size R n c2 zs A c vs l w5 lx5 bs5 HZ.out h5 n7 SH
  go_upto_region 7 with (go_at_call 16; (with_reducible refine HD.mono ?_); rintro en w6 ⟨zs6, rfl, lx6, lk6, y6, ap6⟩)
  have b6 : Below w.heap.size w w6 := b5.trans (y6.mono zb)
  have h6 : RT w6 A n c vs l := h.below b6
  have m6 := lx5.lentApart ap6 m5
  have bs6 := Nat.le_trans bs5 y6.size
  have SL6 := hideIt (lk6.same HZ.out)
  clear HD lx5 h5 b5 m5 bs5 a0 a1 y6 ap6 lk6
  go_upto_region 9 with fail
  have TU := turned_calls A n c vs l ii w6 h6 n7 SH _hii
  go_upto_region 10 with (go_at_call 18; (with_reducible refine TU.mono ?_); rintro en w8 ⟨g8, c8, ys, rfl, ot8, sl8, y8⟩)
  have lx8 := lx6.below y8
  have m8 := m6.below y8
  have b8 := blw_step b6 y8
  have bs8 := Nat.le_trans bs6 y8.size
  have shy := sl8.short SH
  have ffy : FewT n (its ys) := ⟨by omega, fun x hx => by have := shy.s x hx; omega⟩
  have AG := again_calls w1.heap.size R n c2 zs6 ys w6.heap.size g8 c8 w8 lx8 bs8 ot8 lx6.blocks (sl8.trans SL6.out) n7 shy
  obtain ⟨a0, a1⟩ := m8.lent2
  clear TU lx6 m6 b6 bs6 y8 h6 SL6
  go_upto_region 11 with (go_at_call 19; (with_reducible refine AG.mono ?_); rintro en w9 ⟨rfl, zs9, lx9, hz9, y9, ot9, ap9⟩)
  have m9 := lx8.lentApart ap9 m8
  have b9 : Below w.heap.size w w9 := b8.trans (y9.mono zb)
  clear AG lx8 m8 b8 bs8 a0 a1 y9 ap9 ot8 sl8
  obtain ⟨a0, a1⟩ := m9.lent2
  have EN := fun W (x : LX W w1.heap.size R n c2 zs9) q => encodes_calls (some ⟨R, 0, none⟩) (some ⟨g8, 0, none⟩) n (n + 1) c8 (itvs zs9) (itvs ys) (its ys) W (by have := x.read (c2 := n + 1) (by omega) cle; rw [hz9] at this; exact this) q n7
  have HZ9 := hideIt hz9
  clear m9 hz9 ffy shy
  go_wp2_with (first
    | (go_at_call 20; (refine (EN _ lxA otA).mono ?_); rintro en wB ⟨rfl, yB⟩; have bB := blw_step (blw_step b9 yA) yB)
    | (go_at_call 15; (with_reducible refine (OF _).mono ?_); rintro en wA ⟨rfl, yA⟩; have lxA := lx9.below yA; have otA := (ot9.below yA).read))
  go_ret
  exact ⟨rfl, bB⟩
end Go.Proofs.Ytieoleiokjoccaa
/- coppicelaw4.LeafSizes. -/
namespace Go.Proofs.Ytieoleiokjoccaa
open Go.RowKit

set_option maxRecDepth 100000 in
set_option maxHeartbeats 4000000 in
theorem LeafSizes_walk (A : Option Addr) (n c : Nat) (vs : List Value) (l : List It) (ii : Int) (w : World) (h : RT w A n c vs l) (_hii : -9223372036854775808 ≤ ii ∧ ii ≤ 9223372036854775807) :
    Calls Try.prog 3 #[.slice A n c, .int .i64 ii] w fun e w' => e = .returned (.bool true) ∧ Below w.heap.size w w' := by
  have F1 := fun W q => short_calls A n c vs l W q
  obtain ⟨f, hf⟩ : ∃ f, shortT l = f := ⟨_, rfl⟩
  rw [hf] at F1
  have HF := hideIt hf
  have HL := hideIt h.len
  clear hf
  go_enter Try.func3, Try.ntmps3
  go_upto_region 2 with (go_at_call 11; refine (first_calls _).mono ?_; rintro en w1 ⟨rfl, b1⟩)
  have h1 := h.below b1
  cases f
  · go_wp2_with (go_at_call 12; (with_reducible refine (F1 _ h1).mono ?_); rintro en wx ⟨rfl, rfl⟩)
    go_ret
    exact ⟨rfl, b1⟩
  have n7 := (short_of HF.out).1
  rw [HL.out] at n7
  have SH : ShT l := ⟨(short_of HF.out).2⟩
  have ff := short_few HF.out HL.out
  go_upto_region 4 with (go_at_call 12; (with_reducible refine (F1 _ h1).mono ?_); rintro en wx ⟨rfl, rfl⟩)
  clear F1
  have LD := lend_calls _ _ _ _ _ _ h1 n7 SH
  go_upto_region 5 with (go_at_call 13; (with_reducible refine LD.mono ?_); rintro en w2 ⟨R, c2, zs, rfl, lx2, hz, y2⟩)
  have h2 := h1.below y2
  have b2 := blw_step b1 y2
  have cle := lx2.row.le
  have HZ := hideIt hz
  have zb := b1.size
  clear LD h1 hz
  have am := below1 w2 (.cells #[.slice (some ⟨R, 0, none⟩) (n + 1) c2, .int .i64 (n : Int)] 26)
  have m2 : OC (w2.alloc (.cells #[.slice (some ⟨R, 0, none⟩) (n + 1) c2, .int .i64 (n : Int)] 26)) 26 2 w2.heap.size 1 1 [.slice (some ⟨R, 0, none⟩) (n + 1) c2, .int .i64 (n : Int)] := OC.mk rfl _ (heap_alloc_new w2 _) (Nat.le_refl _) (by rw [maxLen_is]; omega) rfl rfl
  have lx3 := lx2.below am
  have h3 := h2.below am
  have b3 := blw_step b2 am
  have bs3 : w1.heap.size ≤ (w2.alloc (.cells #[.slice (some ⟨R, 0, none⟩) (n + 1) c2, .int .i64 (n : Int)] 26)).heap.size := Nat.le_trans y2.size am.size
  clear lx2 h2 b2 am y2
  generalize w2.alloc (.cells #[.slice (some ⟨R, 0, none⟩) (n + 1) c2, .int .i64 (n : Int)] 26) = w3 at m2 lx3 h3 b3 bs3 ⊢
  generalize w2.heap.size = gm at m2 ⊢
  obtain ⟨a0, a1⟩ := m2.lent2
  have OF := fun W => of_calls R n c2 W cle n7
  have SZ := fun W (x : LX W w1.heap.size R n c2 zs) => Size_calls _ _ _ _ _ W (x.read (c2 := n + 1) (by omega) cle) (by rw [HZ.out]; exact ff)
  rw [HZ.out] at SZ
  have S2 := fun W q => refSizeB A n c vs l W q ff
  generalize sizeT l = Z at SZ S2
  go_upto_region 6 with (first
    | (go_at_call 14; (with_reducible refine (SZ _ lx4).mono ?_); rintro en w5 ⟨rfl, y5⟩)
    | (go_at_call 15; (with_reducible refine (OF _).mono ?_); rintro en w4 ⟨rfl, y4⟩; have lx4 := lx3.below y4))
  have lx5 := lx4.below y5
  have y45 := blw_step y4 y5
  have h5 := h3.below y45
  have b5 := blw_step b3 y45
  have m5 := m2.below y45
  have bs5 := Nat.le_trans bs3 y45.size
  clear SZ lx3 lx4 h3 b3 y4 y5 y45 m2 bs3 a0 a1
  obtain ⟨a0, a1⟩ := m5.lent2
  have HD := held_calls w1.heap.size R n c2 zs A c vs l w5 lx5 bs5 HZ.out h5 n7 SH
  go_upto_region 7 with (go_at_call 16; (with_reducible refine HD.mono ?_); rintro en w6 ⟨zs6, rfl, lx6, lk6, y6, ap6⟩)
  have b6 : Below w.heap.size w w6 := b5.trans (y6.mono zb)
  have h6 : RT w6 A n c vs l := h.below b6
  have m6 := lx5.lentApart ap6 m5
  have bs6 := Nat.le_trans bs5 y6.size
  have SL6 := hideIt (lk6.same HZ.out)
  clear HD lx5 h5 b5 m5 bs5 a0 a1 y6 ap6 lk6
  have tz : ((Z : Int) != (Z : Int)) = false := by simp
  go_upto_region 9 with (go_at_call 17; (with_reducible refine (S2 _ h6).mono ?_); rintro en w7 ⟨rfl, y7⟩)
  have h7 := h6.below y7
  have lx7 := lx6.below y7
  have m7 := m6.below y7
  have b7 := blw_step b6 y7
  have bs7 := Nat.le_trans bs6 y7.size
  clear S2 h6 lx6 m6 b6 bs6 y7 tz
  have TU := turned_calls A n c vs l ii w7 h7 n7 SH _hii
  go_upto_region 10 with (go_at_call 18; (with_reducible refine TU.mono ?_); rintro en w8 ⟨g8, c8, ys, rfl, ot8, sl8, y8⟩)
  have lx8 := lx7.below y8
  have m8 := m7.below y8
  have b8 := blw_step b7 y8
  have bs8 := Nat.le_trans bs7 y8.size
  have shy := sl8.short SH
  have ffy : FewT n (its ys) := ⟨by omega, fun x hx => by have := shy.s x hx; omega⟩
  have AG := again_calls w1.heap.size R n c2 zs6 ys w7.heap.size g8 c8 w8 lx8 bs8 ot8 lx7.blocks (sl8.trans SL6.out) n7 shy
  obtain ⟨a0, a1⟩ := m8.lent2
  clear TU lx7 m7 b7 bs7 y8 h7 SL6
  go_upto_region 11 with (go_at_call 19; (with_reducible refine AG.mono ?_); rintro en w9 ⟨rfl, zs9, lx9, hz9, y9, ot9, ap9⟩)
  have m9 := lx8.lentApart ap9 m8
  have b9 : Below w.heap.size w w9 := b8.trans (y9.mono zb)
  clear AG lx8 m8 b8 bs8 a0 a1 y9 ap9 ot8 sl8
  obtain ⟨a0, a1⟩ := m9.lent2
  have SZ := fun W (x : LX W w1.heap.size R n c2 zs9) => Size_calls _ n _ _ (its ys) W (by have := x.read (c2 := n + 1) (by omega) cle; rw [hz9] at this; exact this) ffy
  have S2 := fun W q => refSizeB (some ⟨g8, 0, none⟩) n c8 (itvs ys) (its ys) W q ffy
  generalize sizeT (its ys) = Y at SZ S2
  have tz : ((Y : Int) == (Y : Int)) = true := beq_self_eq_true _
  have HZ9 := hideIt hz9
  clear m9 hz9 ffy shy
  go_wp2_with (first
    | (go_at_call 17; (with_reducible refine (S2 _ otB).mono ?_); rintro en wC ⟨rfl, yC⟩; have bC := blw_step bB yC)
    | (go_at_call 14; (with_reducible refine (SZ _ lxA).mono ?_); rintro en wB ⟨rfl, yB⟩; have bB := blw_step (blw_step b9 yA) yB; have otB := ((ot9.below yA).below yB).read)
    | (go_at_call 15; (with_reducible refine (OF _).mono ?_); rintro en wA ⟨rfl, yA⟩; have lxA := lx9.below yA))
  go_ret
  exact ⟨rfl, bC⟩
end Go.Proofs.Ytieoleiokjoccaa
