/- chain: read, DecodeData, DecodeList. -/
import Derived.Test.YtmeakhiiebeneaaGreatDoorM6
import Derived.Test.YtmeakhiiebeneaaGreatDoorM4
namespace Go.Proofs.YtmeakhiiebeneaaGreatDoor
open Go.RowKit

theorem Rd.under_gc {w w' : World} {r at_ : Nat} {B : List UInt8} {er : Int} {base e sz n c : Nat} {A : Option Addr} {cs : List Value} (q : Rd w r B at_ er) (h : GC w base e sz A n c cs) (hr : r < base) (gx : w.grownBy w' (A.map (·.block))) : Rd w' r B at_ er := by
  rcases h.oc with ⟨rfl, rfl, rfl, rfl⟩ | ⟨g, rfl, hb, o⟩
  · exact q.keep fun k hk => Sm.of_grown gx hk (by simp)
  · exact q.above gx (by show r < g; omega)
theorem read_next (b : List UInt8) : (((b.drop 1).take 6).drop 0).take 4 = (b.drop 1).take 4 := by rw [List.drop_zero, List.take_take]; rfl
theorem read_cnt (b : List UInt8) : (((b.drop 1).take 6).drop 4).take 2 = (b.drop 5).take 2 := by rw [List.drop_take, List.drop_drop, List.take_take]; rfl
def Head (w : World) (k : UInt8) (b : List UInt8) (e : Ending) (w' : World) : Prop :=
  ∃ x m : Nat, e = .returned (.tuple #[.int .i64 (x : Int), .int .i64 (m : Int), .bool (isKind k b)]) ∧ (isKind k b = true → x = nextOf b ∧ m = cntOf b) ∧ Below w.heap.size w w'

set_option maxRecDepth 100000 in
set_option maxHeartbeats 2000000 in
theorem read_calls (k : UInt8) (A : Option Addr) (n c : Nat) (b : List UInt8) (w : World) (h : RB w A n c b) :
    Calls Tryz.prog 93 #[.int .u8 (k.toNat : Int), .slice A n c] w (Head w k b) := by
  have HL := hideIt h.len
  by_cases hn : n = 4092
  · subst hn
    obtain ⟨ad, rfl, cells⟩ := RB.addr h (by rw [HL.out]; decide)
    have c0 := cells 0 (by rw [HL.out]; decide)
    obtain ⟨y, hy⟩ : ∃ y, b[0]'(by rw [HL.out]; decide) = y := ⟨_, rfl⟩
    rw [hy, Addr.add_zero'] at c0
    have hhd : b.head? = some y := by rw [List.head?_eq_getElem?, List.getElem?_eq_getElem (by rw [HL.out]; decide), hy]
    have hcap := RC.le h
    clear cells hy
    by_cases hk : y = k
    · subst hk
      have hK : isKind y b = isNextB (nextOf b) := by unfold isKind; rw [decide_eq_true ⟨HL.out, hhd⟩, Bool.true_and]
      obtain ⟨X, hX⟩ : ∃ X, nextOf b = X := ⟨_, rfl⟩
      obtain ⟨M, hM⟩ : ∃ M, cntOf b = M := ⟨_, rfl⟩
      have xl : X < 4294967296 := by rw [← hX]; exact next_lt b
      have ml : M < 65536 := by rw [← hM]; exact cnt_lt b
      have hp : ∀ e w', (e = .returned (.tuple #[.int .i64 (X : Int), .int .i64 (M : Int), .bool (isNextB X)]) ∧ Below w.heap.size w w') → Head w y b e w' := by
        rintro e w' ⟨rfl, q⟩
        exact ⟨X, M, by rw [hK, hX], fun _ => ⟨hX.symm, hM.symm⟩, q⟩
      refine Calls.mono ?_ hp
      have cut := h.cut (A' := some (ad.add 1)) 1 7 7 (by omega) (by omega) (by omega) (by omega) (fun _ => rfl) (fun q => by cases q)
      simp only [Addr.add_succ'] at cut
      have cut : RB w (some ⟨ad.block, ad.off + 1, none⟩) 6 6 ((b.drop 1).take 6) := cut
      obtain ⟨B, hB⟩ : ∃ B, (b.drop 1).take 6 = B := ⟨_, rfl⟩
      have r1 := read_next b
      have r2 := read_cnt b
      rw [hB] at cut r1 r2
      have lB : B.length = 6 := cut.len
      have G1 := fun W r q => Get32_ok r B 0 W q (by omega)
      have G2 := fun W r q => Get16_ok r B 4 W q (by omega)
      rw [r1] at G1
      rw [r2] at G2
      have e1 : unle ((b.drop 1).take 4) = X := hX
      have e2 : unle ((b.drop 5).take 2) = M := hM
      rw [e1] at G1
      rw [e2] at G2
      have IN := fun W => isNext_calls (X : Int) W
      have i1 : (7 : Int) ≤ (c : Int) := by omega
      have xi : (X : Int) < 4294967296 := by omega
      have mi : (M : Int) < 65536 := by omega
      clear hp hK hX hM r1 r2 e1 e2 hB lB hhd hcap
      go_enter Tryz.func93, Tryz.ntmps93
      go_upto_region 4 with (go_at_call 23; refine (NewReader_calls _ _ _ _ _ cut (by omega)).mono ?_; rintro en w1 ⟨r, rfl, s1, d1, b1⟩)
      go_wp2_with (first
        | (go_at_call 86; refine (IN _).mono ?_; rintro en wx ⟨rfl, rfl⟩)
        | (go_at_call 74; refine (G2 _ _ d2).mono ?_; rintro en w3 ⟨rfl, d3, g3⟩)
        | (go_at_call 95; refine (G1 _ _ d1).mono ?_; rintro en w2 ⟨rfl, d2, g2⟩))
      have b2 := blw_own b1 g2 b1.size s1
      have b3 := blw_own b2 g3 b2.size s1
      go_ret3
      exact ⟨rfl, b3⟩
    · have hK : isKind k b = false := by
        unfold isKind
        rw [decide_eq_false (fun q => hk (by have := q.2; rw [hhd] at this; injection this))]; rfl
      have hp : ∀ e w', (e = .returned (.tuple #[.int .i64 0, .int .i64 0, .bool false]) ∧ w = w') → Head w k b e w' := by
        rintro e w' ⟨rfl, rfl⟩
        exact ⟨0, 0, by rw [hK]; rfl, fun q => by (rw [hK] at q; cases q), Below.refl _ _⟩
      refine Calls.mono ?_ hp
      have e0 : ((y.toNat : Int) == (k.toNat : Int)) = false := by
        rw [beq_eq_false_iff_ne]; intro q
        exact hk (UInt8.toNat_inj.1 (by omega))
      have e1 : ((y.toNat : Int) != (k.toNat : Int)) = true := by simp only [bne, e0]; rfl
      clear hp hK hhd hk
      go_enter Tryz.func93, Tryz.ntmps93
      go_wp2
      go_ret3
      exact ⟨rfl, rfl⟩
  · have hK : isKind k b = false := by
      unfold isKind
      rw [decide_eq_false (fun q => hn (by rw [← HL.out]; exact q.1))]; rfl
    have hp : ∀ e w', (e = .returned (.tuple #[.int .i64 0, .int .i64 0, .bool false]) ∧ w = w') → Head w k b e w' := by
      rintro e w' ⟨rfl, rfl⟩
      exact ⟨0, 0, by rw [hK]; rfl, fun q => by (rw [hK] at q; cases q), Below.refl _ _⟩
    refine Calls.mono ?_ hp
    have e0 : ((n : Int) == 4092) = false := beq_eq_false_iff_ne.2 (by omega)
    have e1 : ((n : Int) != 4092) = true := by simp only [bne, e0]; rfl
    clear hp hK hn
    go_enter Tryz.func93, Tryz.ntmps93
    go_wp2
    go_ret3
    exact ⟨rfl, rfl⟩

def DecDs (w : World) (r : Nat × List UInt8 × Int) (e : Ending) (w' : World) : Prop := ∃ A m c, e = .returned (.tuple #[.int .i64 (r.1 : Int), .slice A m c, .int .i64 r.2.2]) ∧ GB w' w.heap.size A m c r.2.1 ∧ Below w.heap.size w w'
theorem kind_len {k : UInt8} {b : List UInt8} (h : isKind k b = true) : b.length = 4092 := by
  unfold isKind at h
  rw [Bool.and_eq_true] at h
  exact (of_decide_eq_true h.1).1
theorem okD_false_data {b : List UInt8} (h : isDataB (nextOf b) (cntOf b) = false) : decD b = (0, [], 60) := by
  unfold decD okD; rw [h, Bool.false_and, Bool.and_false]; rfl
theorem okD_false_kind {b : List UInt8} (h : isKind 3 b = false) : decD b = (0, [], 60) := by
  unfold decD okD; rw [h, Bool.false_and]; rfl
theorem okD_false_zero {b : List UInt8} (h : (b.drop (7 + cntOf b)).all (· == 0) = false) : decD b = (0, [], 60) := by
  unfold decD okD; rw [h, Bool.and_false, Bool.and_false]; rfl
theorem okD_true {b : List UInt8} (h1 : isKind 3 b = true) (h2 : isDataB (nextOf b) (cntOf b) = true) (h3 : (b.drop (7 + cntOf b)).all (· == 0) = true) : decD b = (nextOf b, dataOf b, 0) := by
  unfold decD okD; rw [h1, h2, h3]; rfl

set_option maxRecDepth 100000 in
set_option maxHeartbeats 4000000 in
theorem DecodeData_calls (A : Option Addr) (n c : Nat) (b : List UInt8) (w : World) (h : RB w A n c b) :
    Calls Tryz.prog 40 #[.slice A n c] w (DecDs w (decD b)) := by
  have HL := hideIt h.len
  have R := fun W q => read_calls 3 A n c b W q
  by_cases hk : isKind 3 b = true
  · have hn : n = 4092 := by rw [← HL.out]; exact kind_len hk
    subst hn
    obtain ⟨ad, rfl, -⟩ := RB.addr h (by rw [HL.out]; decide)
    have hcap := RC.le h
    have mx : c ≤ 9223372036854775807 := by have h2 := RC.mx h; rw [maxLen_is] at h2; exact h2
    obtain ⟨X, hX⟩ : ∃ X, nextOf b = X := ⟨_, rfl⟩
    obtain ⟨M, hM⟩ : ∃ M, cntOf b = M := ⟨_, rfl⟩
    have R' : ∀ W, RB W (some ad) 4092 c b → Calls Tryz.prog 93 #[.int .u8 3, .slice (some ad) 4092 c] W fun e W' => e = .returned (.tuple #[.int .i64 (X : Int), .int .i64 (M : Int), .bool true]) ∧ Below W.heap.size W W' := by
      intro W q
      refine (R W q).mono ?_
      rintro e W' ⟨x, m, rfl, hxm, bb⟩
      obtain ⟨rfl, rfl⟩ := hxm hk
      rw [hk, hX, hM]
      exact ⟨rfl, bb⟩
    clear R
    have xl : X < 4294967296 := by rw [← hX]; exact next_lt b
    have ml : M < 65536 := by rw [← hM]; exact cnt_lt b
    have ID := fun W => isData_calls (X : Int) M W
    by_cases hd : isDataB X M = true
    · rw [hd] at ID
      obtain ⟨m1, m2, -⟩ := isData_iff hd
      have hdt : dataOf b = (b.drop 7).take M := by unfold dataOf; rw [hM]
      have q1 := okD_true hk (by rw [hX, hM]; exact hd)
      have q2 : (b.drop (7 + cntOf b)).all (· == 0) = false → decD b = (0, [], 60) := okD_false_zero
      rw [hM, hX, hdt] at q1
      rw [hM] at q2
      have cut := h.cut (A' := some (ad.add 7)) 7 (7 + M) (7 + M) (by omega) (by omega) (by omega) (by omega) (fun _ => rfl) (fun q => by cases q)
      simp only [Addr.add_succ'] at cut
      have cut : RB w (some ⟨ad.block, ad.off + 7, none⟩) M M ((b.drop 7).take M) := by simpa using cut
      obtain ⟨D, hD⟩ : ∃ D, (b.drop 7).take M = D := ⟨_, rfl⟩
      rw [hD] at cut q1
      have hl := cut.len
      have cp := hideIt (copy_all M D hl)
      clear hX hM hdt hd hk hD hl
      by_cases hcM : c = 7 + M
      · obtain rfl : M = 4085 := by omega
        have hz : (b.drop (7 + 4085)).all (· == 0) = true := by rw [List.drop_of_length_le (by rw [HL.out]; decide)]; rfl
        have zr : RB w (some ad) 0 0 [] := RB.zero w _
        rw [q1 hz]
        clear q1 q2 hz
        subst hcM
        have Z := fun W q => zeros_calls (some ad) 0 0 [] W q
        go_enter Tryz.func40, Tryz.ntmps40
        go_upto_region 2 with (go_at_call 93; refine (R' _ h).mono ?_; rintro en w1 ⟨rfl, b1⟩)
        have cut1 := cut.below b1
        have zr1 := RB.below zr b1
        go_upto_region 5 with (first
          | (at_make; refine wpB_full rfl _ _ rfl _ _ _ _ 4085 rfl rfl rfl rfl (by omega) ?_; intro g w2 s2 o2 k2)
          | (go_at_call 94; refine (Z _ zr1).mono ?_; rintro en wx ⟨rfl, rfl⟩)
          | (go_at_call 87; refine (ID _).mono ?_; rintro en wx ⟨rfl, rfl⟩))
        have bk := below_of_grown k2 (Nat.le_refl _) (by simp)
        have cut2 := cut1.below bk
        have b2 := blw_step b1 bk
        have gl := Nat.le_trans b1.size s2
        clear bk cut1 zr1 k2 b1
        go_wp2_with (with_reducible refine wpB_copy rfl (.tmp 33) (.tmp 39) rfl _ _ _ rfl _ _ _ rfl g 4085 4085 0 _ _ o2 cut2 4085 rfl (fun _ => rfl) (by omega) ?_; intro w3 o3 k3)
        rw [cp.out] at o3
        go_ret3
        exact ⟨_, _, _, rfl, GB.of o3 gl, blw_own b2 k3 b2.size gl⟩
      · have ec : (7 : Int) + (M : Int) - 7 = (M : Int) := by omega
        have e2 : ((7 : Int) + (M : Int)).toNat = 7 + M := by omega
        have i1 : (7 : Int) + (M : Int) ≤ 4092 := by omega
        have i2 : (4092 : Int) ≤ (c : Int) := by omega
        have i3 : (7 : Int) + (M : Int) ≤ (c : Int) := by omega
        have i4 : (1 : Int) ≤ (M : Int) := by omega
        have zr := h.cut (A' := some (ad.add (7 + M))) (7 + M) 4092 c (by omega) (by omega) (by omega) (by omega) (fun _ => rfl) (fun q => by cases q)
        rw [show (b.drop (7 + M)).take (4092 - (7 + M)) = b.drop (7 + M) from List.take_of_length_le (by rw [List.length_drop, HL.out]; exact Nat.le_refl _)] at zr
        by_cases hz : (b.drop (7 + M)).all (· == 0) = true
        · rw [q1 hz]
          have Z := fun W (q : RB W (some (ad.add (7 + M))) (4092 - (7 + M)) (c - (7 + M)) (b.drop (7 + M))) => zeros_calls _ _ _ _ W q
          rw [hz] at Z
          clear q1 q2 hz
          go_enter Tryz.func40, Tryz.ntmps40
          go_upto_region 2 with (go_at_call 93; refine (R' _ h).mono ?_; rintro en w1 ⟨rfl, b1⟩)
          have cut1 := cut.below b1
          have zr1 := RB.below zr b1
          go_upto_region 5 with (first
            | (at_make; refine wpB_full rfl _ _ rfl _ _ _ _ M rfl rfl rfl rfl (by omega) ?_; intro g w2 s2 o2 k2)
            | (go_at_call 94; refine (Z _ zr1).mono ?_; rintro en wx ⟨rfl, rfl⟩)
            | (go_at_call 87; refine (ID _).mono ?_; rintro en wx ⟨rfl, rfl⟩))
          have bk := below_of_grown k2 (Nat.le_refl _) (by simp)
          have cut2 := cut1.below bk
          have b2 := blw_step b1 bk
          have gl := Nat.le_trans b1.size s2
          clear bk cut1 zr1 k2 b1
          go_wp2_with (with_reducible refine wpB_copy rfl (.tmp 33) (.tmp 39) rfl _ _ _ rfl _ _ _ rfl g M M 0 _ _ o2 cut2 M (by simp) (fun _ => rfl) (by omega) ?_; intro w3 o3 k3)
          rw [cp.out] at o3
          go_ret3
          exact ⟨_, _, _, rfl, GB.of o3 gl, blw_own b2 k3 b2.size gl⟩
        · have hz' : (b.drop (7 + M)).all (· == 0) = false := by simpa using hz
          rw [q2 hz']
          have Z := fun W (q : RB W (some (ad.add (7 + M))) (4092 - (7 + M)) (c - (7 + M)) (b.drop (7 + M))) => zeros_calls _ _ _ _ W q
          rw [hz'] at Z
          clear q1 q2 hz hz'
          go_enter Tryz.func40, Tryz.ntmps40
          go_upto_region 2 with (go_at_call 93; refine (R' _ h).mono ?_; rintro en w1 ⟨rfl, b1⟩)
          have zr1 := RB.below zr b1
          go_wp2_with (first
            | (go_at_call 94; refine (Z _ zr1).mono ?_; rintro en wx ⟨rfl, rfl⟩)
            | (go_at_call 87; refine (ID _).mono ?_; rintro en wx ⟨rfl, rfl⟩))
          go_ret3
          exact ⟨_, _, _, rfl, GB.none_ _ _, b1⟩
    · have hd' : isDataB X M = false := by simpa using hd
      rw [hd'] at ID
      rw [okD_false_data (by rw [hX, hM]; exact hd')]
      clear hd hd' hk hX hM
      go_enter Tryz.func40, Tryz.ntmps40
      go_upto_region 2 with (go_at_call 93; refine (R' _ h).mono ?_; rintro en w1 ⟨rfl, b1⟩)
      go_wp2_with (go_at_call 87; refine (ID _).mono ?_; rintro en wx ⟨rfl, rfl⟩)
      go_ret3
      exact ⟨_, _, _, rfl, GB.none_ _ _, b1⟩
  · have hk' : isKind 3 b = false := by simpa using hk
    have R' : ∀ W, RB W A n c b → Calls Tryz.prog 93 #[.int .u8 3, .slice A n c] W fun e W' => ∃ x m : Nat, e = .returned (.tuple #[.int .i64 (x : Int), .int .i64 (m : Int), .bool false]) ∧ Below W.heap.size W W' := by
      intro W q
      refine (R W q).mono ?_
      rintro e W' ⟨x, m, rfl, hxm, bb⟩
      rw [hk']
      exact ⟨x, m, rfl, bb⟩
    rw [okD_false_kind hk']
    clear hk hk' R
    go_enter Tryz.func40, Tryz.ntmps40
    go_wp2_with (go_at_call 93; refine (R' _ h).mono ?_; rintro en w1 ⟨x, m, rfl, b1⟩)
    go_ret3
    exact ⟨_, _, _, rfl, GB.none_ _ _, b1⟩
end Go.Proofs.YtmeakhiiebeneaaGreatDoor
