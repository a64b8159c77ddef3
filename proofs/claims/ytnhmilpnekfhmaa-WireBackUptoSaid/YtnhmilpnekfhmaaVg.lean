/- The walks of the laws WireOneForm, WireApart. -/
import Derived.Test.YtnhmilpnekfhmaaVf
import Derived.Deep.RegionHeld3
namespace Go.Proofs.Ytnhmilpnekfhmaa
open Go.RowKit

theorem vS_zero (xs : List UInt8) {a b : Nat} {e : Int} (h : vOut xs = (a, b, e)) : vS xs 0 0 = (a, b, e) := by
  unfold vS
  rw [if_pos rfl, List.drop_zero, h]
  simp

set_option maxRecDepth 100000 in
set_option maxHeartbeats 4000000 in
theorem WireOneForm_walk (A : Option Addr) (n c : Nat) (xs : List UInt8) (w : World) (hx : RB w A n c xs) (_hb : n ≤ 140737488351232) :
    Calls Try.prog 7 #[.slice A n c] w fun e w' => e = .returned (.bool true) ∧ Below w.heap.size w w' := by
  by_cases hbig : 65536 < n
  · have hbig' : (65536 : Int) < n := by omega
    go_enter Try.func7, Try.ntmps7
    go_wp2_with (go_at_call 10; refine (first_calls _).mono ?_; rintro e w1 ⟨rfl, b1⟩)
    go_ret
    exact ⟨rfl, b1⟩
  have hsmall : (n : Int) ≤ 65536 := by omega
  have hN : n ≤ 65536 := by omega
  have hl := hx.len
  have hc := RC.le hx
  clear _hb hbig
  rcases vOut_cases xs with ⟨er, he, hv⟩ | ⟨x, k, hv, k1, k10, kl, hx64, hf⟩
  · have hv' := vS_zero xs hv
    have hlf : leftS xs 0 er = 0 := by unfold leftS; rw [if_neg (by rcases he with rfl | rfl | rfl <;> decide)]
    clear hv hl hc
    rcases he with rfl | rfl | rfl
    all_goals
      go_enter Try.func7, Try.ntmps7
      go_upto_region 4 with (go_at_call 10; refine (first_calls _).mono ?_; rintro e w1 ⟨rfl, b1⟩)
      have h1 := hx.below b1
      go_upto_region 7 with (go_at_call 14; refine (NewReader_calls _ _ _ _ _ h1 (by omega)).mono ?_; rintro en w2 ⟨g, rfl, s2, d2, x2⟩)
      have b2 := b1.trans (x2.mono b1.size)
      have gw := Nat.le_trans b1.size s2
      have G := V_any g xs 0 0 w2 d2
      rw [hv'] at G
      clear h1 b1 x2 s2 d2
      go_upto_region 8 with (go_at_call 25; refine G.mono ?_; rintro en w3 ⟨rfl, d3, gr3⟩)
      have b3 := b2.grown gr3 b2.size (by simpa using gw)
      clear G b2 gr3
      have G := Err_calls g xs 0 _ w3 d3
      go_upto_region 9 with (go_at_call 22; refine G.mono ?_; rintro en wx ⟨rfl, j3, rfl⟩)
      have b4 := below_drewN b3 j3
      have G2 := Left_calls g xs 0 _ _ (d3.drewN j3)
      rw [hlf] at G2
      clear G b3 d3
      generalize w3.drewN j3 = w4 at *
      go_wp2_with (first
        | (go_at_call 24; refine G2.mono ?_; rintro en wx ⟨rfl, j13, rfl⟩)
        | (go_at_call 23; refine (num_calls _ _).mono ?_; rintro en wx ⟨rfl, rfl⟩))
      go_ret
      exact ⟨rfl, below_drewN b4 j13⟩
  · have hv' := vS_zero xs hv
    have hlf : ((leftS xs k 0 : Nat) : Int) = (n : Int) - (k : Int) := by unfold leftS; rw [if_pos rfl, hl]; omega
    have hfl : (vF 9 x).length = k := by rw [hf, List.length_take]; omega
    have hkn : k ≤ n := by omega
    have LX := hideIt hx64
    have HF := hideIt hf
    obtain ⟨ad, rfl, _⟩ := hx.addr (by omega)
    clear hv hl hf kl hx64
    go_enter Try.func7, Try.ntmps7
    go_upto_region 4 with (go_at_call 10; refine (first_calls _).mono ?_; rintro e w1 ⟨rfl, b1⟩)
    have h1 := hx.below b1
    go_upto_region 7 with (go_at_call 14; refine (NewReader_calls _ _ _ _ _ h1 (by omega)).mono ?_; rintro en w2 ⟨g, rfl, s2, d2, x2⟩)
    have b2 := b1.trans (x2.mono b1.size)
    have gw := Nat.le_trans b1.size s2
    have G := V_any g xs 0 0 w2 d2
    rw [hv'] at G
    clear h1 b1 x2 s2 d2
    go_upto_region 8 with (go_at_call 25; refine G.mono ?_; rintro en w3 ⟨rfl, d3, gr3⟩)
    have b3 := b2.grown gr3 b2.size (by simpa using gw)
    clear G b2 gr3
    have G := Err_calls g xs k 0 w3 d3
    go_upto_region 9 with (go_at_call 22; refine G.mono ?_; rintro en wx ⟨rfl, j3, rfl⟩)
    have b4 := below_drewN b3 j3
    have d4 := d3.drewN j3
    clear G b3 d3
    generalize w3.drewN j3 = w4 at *
    have i1 : (1 : Int) ≤ (k : Int) := by omega
    have i2 : (k : Int) ≤ (n : Int) := by omega
    have i3 : (k : Int) ≤ (c : Int) := by omega
    go_upto_region 14 with (go_at_call 23; refine (num_calls _ _).mono ?_; rintro en wx ⟨rfl, rfl⟩)
    have b5 : Below w.heap.size w w4.drew := b4.trans ((drew1 w4).mono b4.size)
    have d5 := d4.below (drew1 w4)
    clear b4 d4
    go_region_held3 (fun _ => True) (trivial)
      (first
        | (go_at_call 13; (with_reducible refine (SameBytes_calls _ _ _ _ _ _ _ _ _ o6.read t6 true (decide_eq_true HF.out).symm).mono ?_); rintro en wx ⟨rfl, rfl⟩)
        | (go_at_call 17; refine (PutV_calls none 0 0 [] x _ (RB.nil _) (by omega) LX.out).mono ?_; rintro en w6 ⟨g6, m6, e6, rfl, s6, o6, x6⟩; rw [List.nil_append] at o6; have b6 := b5.trans (x6.mono b5.size); have t6 := (hx.below b6).take k hkn; have d6 := d5.below x6))
    all_goals
      have G2 := Left_calls g xs k 0 _ d6
      rw [hlf] at G2
      clear o6 x6 s6 b5 d5 d6 t6
      go_wp2_with (first
        | (go_at_call 24; refine G2.mono ?_; rintro en wx ⟨rfl, j13, rfl⟩)
        | (go_at_call 18; refine (VLen_calls x _ LX.out).mono ?_; rw [hfl]; rintro en wx ⟨rfl, rfl⟩))
      go_ret
      exact ⟨ret_bool (by simp), below_drewN b6 j13⟩
end Go.Proofs.Ytnhmilpnekfhmaa
