/- wire's V. -/
import Derived.Test.YtieoleiokjoccaaWo
import Derived.Laws.BitsAllLaws
namespace Go.Proofs.Ytieoleiokjoccaa
open Go.RowKit

theorem and127 : ∀ a : Fin 256, a.val &&& 127 = a.val % 128 := by decide +kernel
theorem u8_low7 (b : UInt8) : bits .and .u8 (b.toNat : Int) 127 = ((b.toNat % 128 : Nat) : Int) := by
  have h := u8_and_nat b.toNat 127 b.toNat_lt (by decide)
  have o := and127 ⟨b.toNat, b.toNat_lt⟩
  simp only at o
  rw [o] at h
  exact h
theorem v_step (v i c : Nat) (hi : i ≤ 9) (hv : v < 128 ^ i) (hc : c < 128) (h9 : i = 9 → c < 2) :
    bits .or .u64 (v : Int) (IntKind.u64.wrap ((c : Int) * 2 ^ (7 * i))) = ((v + 128 ^ i * c : Nat) : Int) ∧ v + 128 ^ i * c < 128 ^ (i + 1) ∧ v + 128 ^ i * c < 18446744073709551616 := by
  have e2 : (2 : Nat) ^ (7 * i) = 128 ^ i := by rw [Nat.pow_mul]
  have e1 : 128 ^ (i + 1) = 128 ^ i * 128 := Nat.pow_succ ..
  have h1 : 128 ^ i * c ≤ 128 ^ i * 127 := Nat.mul_le_mul_left _ (by omega)
  have h2 : v + 128 ^ i * c < 128 ^ (i + 1) := by rw [e1]; omega
  have p9 : 128 ^ 9 = 9223372036854775808 := by decide
  have h3 : v + 128 ^ i * c < 18446744073709551616 := by
    by_cases h : i = 9
    · subst h
      have := h9 rfl
      rw [p9] at *
      have : 9223372036854775808 * c ≤ 9223372036854775808 * 1 := Nat.mul_le_mul_left _ (by omega)
      omega
    · have : 128 ^ (i + 1) ≤ 128 ^ 9 := Nat.pow_le_pow_right (by decide) (by omega)
      omega
  refine ⟨?_, h2, h3⟩
  have e8 : 256 ^ 8 = 18446744073709551616 := by decide
  have e3 : ((c : Int)) * (2 : Int) ^ (7 * i) = ((128 ^ i * c : Nat) : Int) := by
    rw [← e2, Int.natCast_mul, Int.natCast_pow, Int.mul_comm]; rfl
  rw [e3, wrapu64_of _ (by omega), bits_or64 _ _ (by omega) (by omega)]
  congr 1
  rw [← e2] at hv ⊢
  rw [Nat.add_comm, Nat.two_pow_add_eq_or_of_lt hv, Nat.or_comm]

set_option maxRecDepth 100000 in
set_option maxHeartbeats 2000000 in
theorem V_ok (g : Nat) (B : List UInt8) (at_ : Nat) (w : World) (h : Rd w g B at_ 0) :
    Calls Try.prog 49 #[.pointer (some ⟨g, 0, none⟩)] w fun en w' => en = .returned (.int .u64 ((vOut (B.drop at_)).1 : Nat)) ∧ Rd w' g B (at_ + (vOut (B.drop at_)).2.1) (vOut (B.drop at_)).2.2 ∧ w.grownBy w' (some g) := by
  obtain ⟨gb, n, c, c0, c1, c2, f1, f2, ob, ne, la, ln, lc⟩ := h.laid
  have hB := ob.len
  obtain ⟨L, hL⟩ : ∃ L, B.drop at_ = L := ⟨_, rfl⟩
  have hl : L.length = n - at_ := by rw [← hL, List.length_drop, hB]
  have hget : ∀ k (hk : k < L.length) (hb : at_ + k < B.length), L[k] = B[at_ + k] := by
    intro k hk hb
    subst hL
    simp [List.getElem_drop]
  rw [hL]
  clear hL
  have HL := hideIt hl
  have HB := hideIt hB
  have HG := hideIt hget
  obtain ⟨q, hq⟩ : ∃ q, lead 10 L = q := ⟨_, rfl⟩
  have hq10 : q ≤ 10 ∧ q ≤ L.length := by rw [← hq]; exact lead_le 10 L
  have HQ := hideIt hq
  clear hl hB hget hq
  go_enter Try.func49, Try.ntmps49
  go_wp2
  go_loopw [3, 11] (fun vv ii wr => ∃ (i x j : Nat), i ≤ q ∧ i ≤ 9 ∧ vv = .int .u64 (x : Int) ∧ ii = .int .i64 (i : Int) ∧ Hid (x = un7 (L.take i)) ∧ Hid (x < 128 ^ i) ∧ wr = w.drewN j)
    (fun _ ii _ => 10 - (intOf ii).toNat)
  case atStart => exact ⟨0, 0, 0, by omega, by omega, rfl, rfl, by unfold Hid; rfl, by unfold Hid; decide, rfl⟩
  case round =>
    obtain ⟨i, x, j, hiq, hi9, rfl, rfl, HX, HV, rfl⟩ := hrel
    by_cases hend : at_ + i = n
    · have hlen : i = L.length := by rw [HL.out]; omega
      have hv : vOut L = (0, 0, 10) := by
        unfold vOut
        rw [HQ.out, if_neg (by omega), if_pos (by omega)]
      have HO := hideIt hv
      have e1 : (at_ : Int) + (i : Int) = (n : Int) := by omega
      clear hv hlen
      go_wp2
      go_quiet (fail)
      go_wp2
      go_ret
      rw [HO.out]
      exact ⟨rfl, (h.drewN _).setErr 10, grownBy_drewSet _ _ _ _ _⟩
    · have hlt : i < L.length := by have := HL.out; omega
      have hbn : at_ + i < B.length := by rw [HB.out]; have := HL.out; omega
      have cell := ob.cell (at_ + i) hbn
      rw [← HG.out i hlt hbn] at cell
      obtain ⟨b, hb⟩ : ∃ b, L[i] = b := ⟨_, rfl⟩
      have hbs : L[i]? = some b := by rw [List.getElem?_eq_getElem hlt, hb]
      have hgd : L.getD i 0 = b := by rw [List.getD_eq_getElem?_getD, hbs]; rfl
      have htk := un7_take_succ L i hlt
      rw [hb] at cell htk
      have i2 : (at_ : Int) + (i : Int) < (n : Int) := by have := HL.out; omega
      have i2' : ¬ ((at_ : Int) + (i : Int) = (n : Int)) := by omega
      have i3 : (0 : Int) ≤ (at_ : Int) + (i : Int) := by omega
      have e1 : ((at_ : Int) + (i : Int)).toNat = at_ + i := by omega
      by_cases hbreak : i = 9 ∧ 1 < b.toNat
      · have hv : vOut L = (0, 0, 12) := by
          unfold vOut
          rw [HQ.out]
          by_cases h10 : q = 10
          · rw [if_pos h10]
          · rw [if_neg h10, if_neg (by omega), if_pos ⟨by omega, by rw [← hbreak.1, hgd]; exact hbreak.2⟩]
        have HO := hideIt hv
        obtain ⟨rfl, hb1⟩ := hbreak
        have hb2 : (1 : Int) < (b.toNat : Int) := by omega
        clear hv hgd htk hbs hb
        go_wp2
        go_quiet (fail)
        go_wp2
        go_quiet (fail)
        go_wp2
        go_ret
        rw [HO.out]
        exact ⟨rfl, (h.drewN _).setErr 12, grownBy_drewSet _ _ _ _ _⟩
      · have st := v_step x i (b.toNat % 128) hi9 HV.out (by omega) (by intro q9; have : ¬ (1 < b.toNat) := fun z => hbreak ⟨q9, z⟩; omega)
        rw [HX.out, ← htk, show ((b.toNat % 128 : Nat) : Int) = (b.toNat : Int) % 128 by omega] at st
        have l7 := u8_low7 b
        have ST := hideIt st.1
        by_cases h128 : 128 ≤ b.toNat
        · have hi9' : i < 9 := by
            have : ¬ (i = 9) := fun z => hbreak ⟨z, by omega⟩
            omega
          have hne : ((i : Int) == 9) = false := by rw [beq_eq_false_iff_ne]; omega
          have hbi : (128 : Int) ≤ (b.toNat : Int) := by omega
          have hiq' : i + 1 ≤ q := by
            have : ¬ (q = i) := by
              intro z
              have := lead_stop 10 L (by rw [HQ.out]; omega) b (by rw [HQ.out, z]; exact hbs)
              omega
            omega
          have SB := hideIt st.2.1
          clear st htk hgd hbs hb hbreak h128
          go_wp2
          go_quiet (fail)
          go_wp2
          go_quiet (fail)
          go_wp2
          go_roundw
          case rel => exact ⟨i + 1, un7 (L.take (i + 1)), _, hiq', by omega, by rw [HX.out, ST.out], by go_num, hideIt rfl, SB, rfl⟩
          case measure => simp [intOf]; omega
        · have hqi : q = i := by
            have : ¬ (i < q) := by
              intro z
              obtain ⟨c', hc', h1⟩ := lead_big 10 L i (by rw [HQ.out]; exact z)
              rw [hbs] at hc'
              cases hc'
              omega
            omega
          have hsm : (b.toNat : Int) < 128 := by omega
          have hno9 : ¬ (q = 9 ∧ 1 < (L.getD 9 0).toNat) := by
            rintro ⟨z1, z2⟩
            have z3 : i = 9 := by omega
            rw [← z3, hgd] at z2
            exact hbreak ⟨z3, z2⟩
          by_cases hz : 0 < i ∧ b = 0
          · have hv : vOut L = (0, 0, 11) := by
              unfold vOut
              rw [HQ.out, if_neg (by omega), if_neg (by omega), if_neg hno9, if_pos ⟨by omega, by rw [hqi, hgd]; exact hz.2⟩]
            have HO := hideIt hv
            have hb0 : (b.toNat : Int) = 0 := by rw [hz.2]; rfl
            have hi0 : (0 : Int) < (i : Int) := by omega
            clear hv st htk hgd hbs hb hbreak h128 hno9 hz hsm ST
            by_cases h9 : i = 9
            all_goals
              first | (have hne : ((i : Int) == 9) = false := by rw [beq_eq_false_iff_ne]; omega) | (have hne : ((i : Int) == 9) = true := by rw [beq_iff_eq]; omega)
              clear h9
              go_wp2
              go_quiet (fail)
              go_wp2
              go_quiet (fail)
              go_wp2
              go_ret
              rw [HO.out]
              exact ⟨rfl, (h.drewN _).setErr 11, grownBy_drewSet _ _ _ _ _⟩
          · have hv : vOut L = (un7 (L.take (i + 1)), i + 1, 0) := by
              unfold vOut
              rw [HQ.out, if_neg (by omega), if_neg (by omega), if_neg hno9, if_neg (by rw [hqi, hgd]; exact hz), hqi]
            have HO := hideIt hv
            have hfin : at_ + (i + 1) ≤ B.length := by rw [HB.out]; have := HL.out; omega
            have hb9 : i = 9 → (b.toNat : Int) ≤ 1 := by intro z; have : ¬ (1 < b.toNat) := fun y => hbreak ⟨z, y⟩; omega
            have hz' : b = 0 → i = 0 := by intro z; have : ¬ (0 < i) := fun y => hz ⟨y, z⟩; omega
            clear hv htk hgd hbs hb hbreak h128 hno9 hz
            rcases Nat.eq_zero_or_pos i with hi0 | hi0
            · have hne : ((i : Int) == 9) = false := by rw [beq_eq_false_iff_ne]; omega
              have hd : (i : Int) ≤ 0 := by omega
              clear hi0 hb9 hz'
              by_cases hb0 : (b.toNat : Int) = 0
              · go_wp2
                go_quiet (fail)
                go_wp2
                go_quiet (fail)
                go_wp2
                go_ret
                rw [HO.out]
                refine ⟨?_, (h.drewN _).setAtI _ (at_ + (i + 1)) (by omega) hfin, grownBy_drewSet _ _ _ _ _⟩
                have z7 : IntKind.u64.wrap (bits BinOp.and IntKind.u8 0 127) = (b.toNat : Int) % 128 := by rw [hb0]; decide
                show Ending.returned (.int .u64 (bits BinOp.or IntKind.u64 (x : Int) (IntKind.u64.wrap (IntKind.u64.wrap (bits BinOp.and IntKind.u8 0 127) * 2 ^ (7 * i))))) = _
                rw [z7, HX.out, ST.out]
              · go_wp2
                go_quiet (fail)
                go_wp2
                go_quiet (fail)
                go_wp2
                go_ret
                rw [HO.out]
                exact ⟨by rw [HX.out, ST.out]; rfl, (h.drewN _).setAtI _ (at_ + (i + 1)) (by omega) hfin, grownBy_drewSet _ _ _ _ _⟩
            · have hb0 : ((b.toNat : Int) == 0) = false := by
                rw [beq_eq_false_iff_ne]
                intro z
                have : b = 0 := UInt8.toNat_inj.1 (by show b.toNat = 0; omega)
                have := hz' this
                omega
              have hi1 : (0 : Int) < (i : Int) := by omega
              by_cases h9 : i = 9
              · have hne : ((i : Int) == 9) = true := by rw [beq_iff_eq]; omega
                have hb1 := hb9 h9
                clear h9 hb9 hz'
                go_wp2
                go_quiet (fail)
                go_wp2
                go_quiet (fail)
                go_wp2
                go_ret
                rw [HO.out]
                exact ⟨by rw [HX.out, ST.out]; rfl, (h.drewN _).setAtI _ (at_ + (i + 1)) (by omega) hfin, grownBy_drewSet _ _ _ _ _⟩
              · have hne : ((i : Int) == 9) = false := by rw [beq_eq_false_iff_ne]; omega
                clear h9 hb9 hz'
                go_wp2
                go_quiet (fail)
                go_wp2
                go_quiet (fail)
                go_wp2
                go_ret
                rw [HO.out]
                exact ⟨by rw [HX.out, ST.out]; rfl, (h.drewN _).setAtI _ (at_ + (i + 1)) (by omega) hfin, grownBy_drewSet _ _ _ _ _⟩

set_option maxHeartbeats 1000000 in
theorem V_any (g : Nat) (B : List UInt8) (at_ : Nat) (er : Int) (w : World) (h : Rd w g B at_ er) :
    Calls Try.prog 49 #[.pointer (some ⟨g, 0, none⟩)] w fun en w' => en = .returned (.int .u64 ((vS B at_ er).1 : Nat)) ∧ Rd w' g B (vS B at_ er).2.1 (vS B at_ er).2.2 ∧ w.grownBy w' (some g) := by
  by_cases he : er = 0
  · subst he
    exact V_ok g B at_ w h
  · have e1 : vS B at_ er = (0, at_, er) := by unfold vS; rw [if_neg he]
    rw [e1]
    have hE : (er == 0) = false := beq_eq_false_iff_ne.2 he
    obtain ⟨gb, n, c, c0, c1, c2, f1, f2, ob, ne, la, ln, lc⟩ := h.laid
    go_enter Try.func49, Try.ntmps49
    go_wp2
    go_ret
    exact ⟨rfl, h, World.grownBy.refl _ _⟩
end Go.Proofs.Ytieoleiokjoccaa
