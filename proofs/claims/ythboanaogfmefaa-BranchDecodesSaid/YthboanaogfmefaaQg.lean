/- coppiceref5.least, number. -/
import Derived.Test.YthboanaogfmefaaPt
import Derived.Test.YthboanaogfmefaaSt
namespace Go.Proofs.Ythboanaogfmefaa
open Go.RowKit

def LO2 : Option (Nat × Nat) → Nat → Int × Int
  | none, _ => (0, -1)
  | some p, at_ => ((p.1 : Int), (at_ : Int) + (p.2 : Int))
theorem two_ret {a b c d : Int} (h1 : a = c) (h2 : b = d) : Ending.returned (.tuple #[.int .i64 a, .int .i64 b]) = .returned (.tuple #[.int .i64 c, .int .i64 d]) := by rw [h1, h2]
theorem table_cell (w : World) (k : Nat) (hk : k < 3) : (w.alloc (.cells #[.int .i64 1, .int .i64 128, .int .i64 16384] 3)).cell? ⟨w.heap.size, k, none⟩ = some (.int .i64 ((128 ^ k : Nat) : Int)) := by
  have h := OC.cell (OC.mk (w := w.alloc (.cells #[.int .i64 1, .int .i64 128, .int .i64 16384] 3)) (e := 3) (sz := 1) (g := w.heap.size) (n := 3) (c := 3) (cs := [.int .i64 1, .int .i64 128, .int .i64 16384]) rfl _ (heap_alloc_new w _) (Nat.le_refl _) (by rw [maxLen_is]; omega) rfl rfl) k (.int .i64 ((128 ^ k : Nat) : Int)) (by
    match k, hk with
    | 0, _ => rfl
    | 1, _ => rfl
    | 2, _ => rfl)
  exact h
set_option maxRecDepth 100000 in
set_option maxHeartbeats 4000000 in
theorem least_calls (A : Option Addr) (n c : Nat) (B : List UInt8) (at_ : Nat) (w : World) (h : RB w A n c B) (hb : at_ ≤ 1000000) (hn : n ≤ 1000000) :
    Calls Try.prog 72 #[.slice A n c, .int .i64 (at_ : Int)] w fun e w' => e = .returned (.tuple #[.int .i64 (LO2 (least3 (B.drop at_) 3 0 0) at_).1, .int .i64 (LO2 (least3 (B.drop at_) 3 0 0) at_).2]) ∧ Below w.heap.size w w' := by
  have HL := hideIt h.len
  obtain ⟨T, hT⟩ : ∃ T, least3 (B.drop at_) 3 0 0 = T := ⟨_, rfl⟩
  rw [hT]
  have H0 : Hid (least3 (B.drop at_) (3 - 0) 0 0 = T) := hideIt hT
  clear hT
  go_enter Try.func72, Try.ntmps72
  go_wp2
  go_loopw [6, 7] (fun xx kk wr => ∃ k x : Nat, k ≤ 3 ∧ x ≤ 2097151 ∧ Hid (x < 128 ^ k) ∧ xx = .int .i64 (x : Int) ∧ kk = .int .i64 (k : Int) ∧ Hid (least3 (B.drop at_) (3 - k) k x = T) ∧ Below w.heap.size w wr)
    (fun _ kk _ => 3 - (intOf kk).toNat)
  case atStart => exact ⟨0, 0, by omega, by omega, hideIt (by decide), rfl, rfl, H0, Below.refl _ _⟩
  case round =>
    clear H0
    obtain ⟨k, x, hk, hx, HX, rfl, rfl, H, bw⟩ := hrel
    by_cases hlt : k < 3
    · obtain ⟨f, hf⟩ : ∃ f, 3 - k = f + 1 := ⟨2 - k, by omega⟩
      have st := H.out
      rw [hf, least3, List.getElem?_drop] at st
      have k3 : (k : Int) < 3 := by omega
      by_cases hin : at_ + k < n
      · have hr := h.below bw
        have hbl : at_ + k < B.length := by rw [HL.out]; exact hin
        obtain ⟨ad, rfl, cb⟩ := hr.at_ (at_ + k) hbl
        rw [List.getElem?_eq_getElem hbl] at st
        simp only at st
        generalize B[at_ + k] = cc at st cb
        have c8 := cc.toNat_lt
        obtain ⟨cn, hcn⟩ : ∃ cn, cc.toNat = cn := ⟨_, rfl⟩
        rw [hcn] at st cb c8
        obtain ⟨M, hM⟩ : ∃ M, 128 ^ k = M := ⟨_, rfl⟩
        have M1 : M ≤ 16384 := by rw [← hM]; exact Nat.le_trans (Nat.pow_le_pow_right (by decide) (show k ≤ 2 by omega)) (by decide)
        have xM : x < M := by rw [← hM]; exact HX.out
        obtain ⟨P, hP⟩ : ∃ P, cn % 128 * M = P := ⟨_, rfl⟩
        have P1 : P ≤ 127 * M := by rw [← hP]; exact Nat.mul_le_mul_right _ (by omega)
        have hP' : ((cn : Int) % 128) * (M : Int) = (P : Int) := by rw [← hP, Int.natCast_mul, Int.natCast_emod]; rfl
        have P2 : P ≤ 2080768 := by omega
        have XP : x + P < 128 * M := by omega
        have XP2 : x + P ≤ 2097151 := by omega
        have XN : Hid (x + P < 128 ^ (k + 1)) := hideIt (by rw [Nat.pow_succ, hM]; omega)
        have tc := table_cell wr k hlt
        rw [hM] at tc st
        have cb2 := ((below1 wr (.cells #[.int .i64 1, .int .i64 128, .int .i64 16384] 3)).cell (p := ad.add (at_ + k)) (World.block_lt_of_cell? wr _ cb)).trans cb
        have b2 := blw_step bw (below1 wr (.cells #[.int .i64 1, .int .i64 128, .int .i64 16384] 3))
        have t1 : decide (n ≤ at_ + k) = false := decide_eq_false (by omega)
        have i1 : decide ((n : Int) ≤ (at_ : Int) + (k : Int)) = false := decide_eq_false (by omega)
        have i2 : (at_ : Int) + (k : Int) < (n : Int) := by omega
        have i3 : ((at_ : Int) + (k : Int)).toNat = at_ + k := by omega
        have HP := hideIt hP
        clear hcn hM xM XP H hr hP h
        by_cases hc : cn < 128
        · rw [if_pos hc] at st
          have j1 : decide ((cn : Int) < 128) = true := decide_eq_true (by omega)
          by_cases hz : cn = 0 ∧ 0 < k
          · rw [if_pos hz] at st
            obtain ⟨rfl, hk0⟩ := hz
            subst st
            have j2 : decide ((0 : Int) < (k : Int)) = true := decide_eq_true (by omega)
            clear HP hlt hc
            go_wp2
            go_ret2
            exact ⟨rfl, b2⟩
          · rw [if_neg hz] at st
            have hPm : P = cn * M := by rw [← HP.out, Nat.mod_eq_of_lt hc]
            rw [← hPm] at st
            subst st
            have j3 : ((cn : Int) == 0 && decide ((0 : Int) < (k : Int))) = false := by
              rw [Bool.and_eq_false_iff]
              rcases Nat.eq_zero_or_pos cn with q | q
              · exact Or.inr (decide_eq_false (by omega))
              · exact Or.inl (beq_eq_false_iff_ne.2 (by omega))
            clear hPm HP
            by_cases hz0 : cn = 0
            · have k0 : ¬ 0 < k := fun q => hz ⟨hz0, q⟩
              have j4 : ((cn : Int) == 0) = true := by rw [hz0]; rfl
              have j5 : decide ((0 : Int) < (k : Int)) = false := decide_eq_false (by omega)
              have j6 : decide (0 < k) = false := decide_eq_false k0
              clear hz hz0 k0 j3
              go_wp2
              go_ret2
              exact ⟨two_ret (show _ = ((x + P : Nat) : Int) by omega) (show _ = (at_ : Int) + ((k + 1 : Nat) : Int) by omega), b2⟩
            · have j4 : ((cn : Int) == 0) = false := beq_eq_false_iff_ne.2 (by omega)
              clear hz hz0 j3
              go_wp2
              go_ret2
              exact ⟨two_ret (show _ = ((x + P : Nat) : Int) by omega) (show _ = (at_ : Int) + ((k + 1 : Nat) : Int) by omega), b2⟩
        · rw [if_neg hc, HP.out] at st
          have j1 : decide ((cn : Int) < 128) = false := decide_eq_false (by omega)
          have ST : Hid (least3 (B.drop at_) (3 - (k + 1)) (k + 1) (x + P) = T) := hideIt (by rw [show 3 - (k + 1) = f by omega]; exact st)
          clear st
          go_wp2
          go_roundw
          case rel => exact ⟨k + 1, x + P, by omega, by omega, XN, by go_num, by go_num, ST, b2⟩
          case measure => simp [intOf]; omega
      · rw [List.getElem?_eq_none (by rw [HL.out]; omega)] at st
        simp only at st
        subst st
        have i1 : decide ((n : Int) ≤ (at_ : Int) + (k : Int)) = true := decide_eq_true (by omega)
        clear H HX
        go_wp2
        go_ret2
        exact ⟨rfl, bw⟩
    · obtain rfl : 3 = k := by omega
      have st := H.out
      rw [Nat.sub_self, least3] at st
      subst st
      clear H HX
      go_wp2
      go_ret2
      exact ⟨rfl, bw⟩

set_option maxRecDepth 100000 in
set_option maxHeartbeats 4000000 in
theorem number_calls (A : Option Addr) (n c : Nat) (B : List UInt8) (at_ : Nat) (w : World) (h : RB w A n c B) (hb : at_ + 4 ≤ n) (hn : n ≤ 1000000) :
    Calls Try.prog 73 #[.slice A n c, .int .i64 (at_ : Int)] w fun e w' => e = .returned (.int .i64 (numR B at_ : Nat)) ∧ ∃ j, w' = w.drewN j := by
  have hl := h.len
  obtain ⟨ad, rfl, cells⟩ := h.addr (by omega)
  have key : ∀ j, j < B.length → ∃ b : Nat, b < 256 ∧ Hid ((B.getD j 0).toNat = b) ∧ w.cell? (ad.add j) = some (.int .u8 (b : Int)) := by
    intro j hj
    exact ⟨_, (B.getD j 0).toNat_lt, hideIt rfl, by rw [List.getD_eq_getElem?_getD, List.getElem?_eq_getElem hj]; exact cells j hj⟩
  obtain ⟨b0, u0, H0, c0⟩ := key at_ (by omega)
  obtain ⟨b1, u1, H1, c1⟩ := key (at_ + 1) (by omega)
  obtain ⟨b2, u2, H2, c2⟩ := key (at_ + 2) (by omega)
  obtain ⟨b3, u3, H3, c3⟩ := key (at_ + 3) (by omega)
  have HN : Hid (numR B at_ = b0 + b1 * 256 + b2 * 65536 + b3 * 16777216) := hideIt (by unfold numR; rw [H0.out, H1.out, H2.out, H3.out])
  have ea : ∀ j, ad.add (j + 1) = ⟨ad.block, ad.off + (j + 1), none⟩ := fun j => by unfold Addr.add; exact if_neg (by omega)
  rw [ea] at c1
  rw [show at_ + 2 = (at_ + 1) + 1 from rfl, ea] at c2
  rw [show at_ + 3 = (at_ + 2) + 1 from rfl, ea] at c3
  rw [show at_ + 1 + 1 = at_ + 2 from rfl] at c2
  rw [show at_ + 2 + 1 = at_ + 3 from rfl] at c3
  clear cells key H0 H1 H2 H3 hl ea
  go_enter Try.func73, Try.ntmps73
  go_wp2
  go_quiet (fail)
  go_wp2
  go_ret
  refine ⟨?_, _, rfl⟩
  rw [HN.out]
  congr 2
end Go.Proofs.Ythboanaogfmefaa
