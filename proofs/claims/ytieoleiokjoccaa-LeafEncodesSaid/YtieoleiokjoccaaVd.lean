/- The document's V. -/
import Derived.Test.YtieoleiokjoccaaWx
import Derived.Test.YtieoleiokjoccaaVc
namespace Go.Proofs.Ytieoleiokjoccaa
open Go.RowKit

theorem un7_drop_le (l : List UInt8) (k : Nat) : un7 (l.drop k) ≤ un7 l := by
  induction l generalizing k with
  | nil => simp [un7]
  | cons b l ih =>
    cases k with
    | zero => exact Nat.le_refl _
    | succ k => have := ih k; rw [List.drop_succ_cons, un7]; omega
theorem v7_step (x c T : Nat) (hc : c < 128) (hT : c + 128 * x ≤ T) (h : T < 18446744073709551616) :
    bits .or .u64 (IntKind.u64.wrap ((x : Int) * 128)) (c : Int) = ((c + 128 * x : Nat) : Int) := by
  have e8 : 256 ^ 8 = 18446744073709551616 := by decide
  have e3 : (x : Int) * 128 = ((128 * x : Nat) : Int) := by omega
  rw [e3, wrapu64_of _ (by omega), bits_or64 _ _ (by omega) (by omega)]
  congr 1
  have := Nat.two_pow_add_eq_or_of_lt (i := 7) (b := c) hc x
  rw [show (2 : Nat) ^ 7 = 128 from rfl] at this
  rw [← this, Nat.add_comm]

set_option maxRecDepth 100000 in
set_option maxHeartbeats 2000000 in
theorem rV_ok (g : Nat) (B : List UInt8) (at_ : Nat) (w : World) (h : Rd w g B at_ 0) :
    Calls Try.prog 65 #[.pointer (some ⟨g, 0, none⟩)] w fun en w' => en = .returned (.int .u64 ((vOut (B.drop at_)).1 : Nat)) ∧ Rd w' g B (at_ + (vOut (B.drop at_)).2.1) (vOut (B.drop at_)).2.2 ∧ w.grownBy w' (some g) := by
  obtain ⟨gb, n, c, c0, c1, c2, f1, f2, ob, ne, la, ln, lc⟩ := h.laid
  have hB := ob.len
  obtain ⟨L, hL⟩ : ∃ L, B.drop at_ = L := ⟨_, rfl⟩
  have hl : L.length = n - at_ := by rw [← hL, List.length_drop, hB]
  have hget : ∀ k (hk : k < L.length) (hb : at_ + k < B.length), L[k] = B[at_ + k] := by
    intro k hk hb
    subst hL
    simp [List.getElem_drop]
  rw [hL]
  clear hL
  obtain ⟨m, hm⟩ : ∃ m, L.length = m := ⟨_, rfl⟩
  have HL := hideIt hm
  have HB := hideIt hB
  have HG := hideIt hget
  obtain ⟨q, hq⟩ : ∃ q, lead 10 L = q := ⟨_, rfl⟩
  have hq10 : q ≤ 10 ∧ q ≤ m := by rw [← hq, ← hm]; exact lead_le 10 L
  have HQ := hideIt hq
  have hmn : m = n - at_ := by rw [← hm]; exact hl
  have hsub : (n : Int) - (at_ : Int) = (m : Int) := by omega
  have hatm : at_ + m = n := by omega
  clear hl hB hget hq hm hmn
  go_enter Try.func65, Try.ntmps65
  go_wp2
  go_quiet (fail)
  go_wp2
  go_loopw [4] (fun ii wr => ∃ (i j : Nat), i ≤ q ∧ ii = .int .i64 (i : Int) ∧ wr = w.drewN j)
    (fun ii _ => 10 - (intOf ii).toNat)
  case atStart => exact ⟨0, _, by omega, rfl, rfl⟩
  case round =>
    obtain ⟨i, j, hiq, rfl, rfl⟩ := hrel
    by_cases hend : i = m
    · have hqi : q = m := by omega
      have e1 : decide (i < m) = false := decide_eq_false (by omega)
      by_cases h10 : i = 10
      · have hv : vOut L = (0, 0, 12) := by unfold vOut; rw [HQ.out, if_pos (by omega)]
        have HO := hideIt hv
        have e2 : ((i : Int) == 10) = true := by rw [beq_iff_eq]; omega
        clear hv h10 hend hqi
        go_wp2
        go_quiet (fail)
        go_wp2
        go_ret
        rw [HO.out]
        exact ⟨rfl, (h.drewN _).setErr 12, grownBy_drewSet _ _ _ _ _⟩
      · have hv : vOut L = (0, 0, 10) := by unfold vOut; rw [HQ.out, if_neg (by omega), if_pos (by rw [HL.out]; omega)]
        have HO := hideIt hv
        have e2 : ((i : Int) == 10) = false := by rw [beq_eq_false_iff_ne]; omega
        have e3 : ((i : Int) == (m : Int)) = true := by rw [beq_iff_eq]; omega
        have e3' : (i == m) = true := by rw [beq_iff_eq]; omega
        clear hv h10 hend hqi
        go_wp2
        go_quiet (fail)
        go_wp2
        go_ret
        rw [HO.out]
        exact ⟨rfl, (h.drewN _).setErr 10, grownBy_drewSet _ _ _ _ _⟩
    · have e1 : (i : Int) < (m : Int) := by omega
      have e1' : i < m := by omega
      by_cases h10 : i = 10
      · have hv : vOut L = (0, 0, 12) := by unfold vOut; rw [HQ.out, if_pos (by omega)]
        have HO := hideIt hv
        have e2 : ((i : Int) == 10) = true := by rw [beq_iff_eq]; omega
        have e3 : decide ((i : Int) < 10) = false := decide_eq_false (by omega)
        clear hv h10 hend
        go_wp2
        go_quiet (fail)
        go_wp2
        go_ret
        rw [HO.out]
        exact ⟨rfl, (h.drewN _).setErr 12, grownBy_drewSet _ _ _ _ _⟩
      · have hlt : i < L.length := by rw [HL.out]; omega
        have hbn : at_ + i < B.length := by rw [HB.out]; omega
        have cell := ob.cell (at_ + i) hbn
        rw [← HG.out i hlt hbn] at cell
        obtain ⟨b, hb⟩ : ∃ b, L[i] = b := ⟨_, rfl⟩
        have hbs : L[i]? = some b := by rw [List.getElem?_eq_getElem hlt, hb]
        have hgd : L.getD i 0 = b := by rw [List.getD_eq_getElem?_getD, hbs]; rfl
        rw [hb] at cell
        have i2 : (at_ : Int) + (i : Int) < (n : Int) := by omega
        have i3 : (0 : Int) ≤ (at_ : Int) + (i : Int) := by omega
        have ea : ((at_ : Int) + (i : Int)).toNat = at_ + i := by omega
        have e3 : (i : Int) < 10 := by omega
        by_cases h128 : 128 ≤ b.toNat
        · have hbi : (128 : Int) ≤ (b.toNat : Int) := by omega
          have hiq' : i + 1 ≤ q := by
            have : ¬ (q = i) := by
              intro z
              have := lead_stop 10 L (by rw [HQ.out]; omega) b (by rw [HQ.out, z]; exact hbs)
              omega
            omega
          clear hgd hbs hb h128 h10 hend
          go_wp2
          go_quiet (fail)
          go_wp2
          go_roundw
          case rel => exact ⟨i + 1, _, hiq', by go_num, rfl⟩
          case measure => simp [intOf]; omega
        · have hqi : q = i := by
            have : ¬ (i < q) := by
              intro z
              obtain ⟨c', hc', h1⟩ := lead_big 10 L i (by rw [HQ.out]; exact z)
              rw [hbs] at hc'
              cases hc'
              omega
            omega
          have hsm : (b.toNat : Int) < 128 := by omega
          have e2 : ((i : Int) == 10) = false := by rw [beq_eq_false_iff_ne]; omega
          have e4 : ((i : Int) == (m : Int)) = false := by rw [beq_eq_false_iff_ne]; omega
          have e4' : (i == m) = false := by rw [beq_eq_false_iff_ne]; omega
          have hlead : ¬ (lead 10 L = 10) ∧ ¬ (lead 10 L = L.length) := by rw [HQ.out, HL.out]; omega
          by_cases h9 : i = 9 ∧ 1 < b.toNat
          · have hv : vOut L = (0, 0, 12) := by
              unfold vOut
              rw [if_neg hlead.1, if_neg hlead.2, if_pos ⟨by rw [HQ.out]; omega, by rw [← h9.1, hgd]; exact h9.2⟩]
            have HO := hideIt hv
            have e5 : ((i : Int) == 9) = true := by rw [beq_iff_eq]; omega
            have e6 : (1 : Int) < (b.toNat : Int) := by omega
            clear hv hgd hbs hb h128 h10 hend h9 hlead
            go_wp2
            go_quiet (fail)
            go_wp2
            go_quiet (fail)
            go_wp2
            go_ret
            rw [HO.out]
            exact ⟨rfl, (h.drewN _).setErr 12, grownBy_drewSet _ _ _ _ _⟩
          · have hno9 : ¬ (lead 10 L = 9 ∧ 1 < (L.getD 9 0).toNat) := by
              rw [HQ.out]
              rintro ⟨z1, z2⟩
              have z3 : i = 9 := by omega
              rw [← z3, hgd] at z2
              exact h9 ⟨z3, z2⟩
            by_cases hz : 0 < i ∧ b = 0
            · have hv : vOut L = (0, 0, 11) := by
                unfold vOut
                rw [if_neg hlead.1, if_neg hlead.2, if_neg hno9, if_pos ⟨by rw [HQ.out]; omega, by rw [HQ.out, hqi, hgd]; exact hz.2⟩]
              have HO := hideIt hv
              have hb0 : (b.toNat : Int) = 0 := by rw [hz.2]; rfl
              have hi0 : (0 : Int) < (i : Int) := by omega
              clear hv hgd hbs hb h128 h10 hend h9 hlead hno9 hz hsm
              by_cases h9 : i = 9
              all_goals
                first | (have hne : ((i : Int) == 9) = false := by rw [beq_eq_false_iff_ne]; omega) | (have hne : ((i : Int) == 9) = true := by rw [beq_iff_eq]; omega)
                clear h9
                go_wp2
                go_quiet (fail)
                go_wp2
                go_quiet (fail)
                go_wp2
                go_ret
                rw [HO.out]
                exact ⟨rfl, (h.drewN _).setErr 11, grownBy_drewSet _ _ _ _ _⟩
            · have hv : vOut L = (un7 (L.take (i + 1)), i + 1, 0) := by
                unfold vOut
                rw [if_neg hlead.1, if_neg hlead.2, if_neg hno9, if_neg (by rw [HQ.out, hqi, hgd]; exact hz), HQ.out, hqi]
              have hT := vOut_lt L
              rw [hv] at hT
              simp only at hT
              obtain ⟨M, hM⟩ : ∃ M, L.take (i + 1) = M := ⟨_, rfl⟩
              rw [hM] at hv hT
              have hMl : M.length = i + 1 := by rw [← hM, List.length_take]; omega
              have hMg : ∀ k (hk : k < M.length) (hb : at_ + k < B.length), M[k] = B[at_ + k] := by
                intro k hk hbk
                rw [← HG.out k (by omega) hbk]
                subst hM
                rw [List.getElem_take]
              have HO := hideIt hv
              have HT := hideIt hT
              have HMl := hideIt hMl
              have HMg := hideIt hMg
              have hfin : at_ + (i + 1) ≤ B.length := by rw [HB.out]; omega
              have hb9 : i = 9 → (b.toNat : Int) ≤ 1 := by intro z; have : ¬ (1 < b.toNat) := fun y => h9 ⟨z, y⟩; omega
              have hz' : b = 0 → i = 0 := by intro z; have : ¬ (0 < i) := fun y => hz ⟨y, z⟩; omega
              clear hv hT hM hMl hMg hgd hbs hb h128 h10 hend h9 hlead hno9 hz hqi hiq hq10
              have hmi : at_ + i < n := by omega
              rcases Nat.eq_zero_or_pos i with hi0 | hi0
              · have hne : ((i : Int) == 9) = false := by rw [beq_eq_false_iff_ne]; omega
                have hd : (i : Int) ≤ 0 := by omega
                clear hi0 hb9 hz'
                go_wp2
                go_quiet (fail)
                go_wp2
                go_quiet (fail)
                go_wp2
                go_loopw [6, 7] (fun xx kk wr => ∃ (k x j : Nat) (ki : Int), k ≤ i + 1 ∧ ki = (k : Int) - 1 ∧ xx = .int .u64 (x : Int) ∧ kk = .int .i64 ki ∧ Hid (x = un7 (M.drop k)) ∧ wr = w.drewN j)
                  (fun _ kk _ => (intOf kk + 1).toNat)
                case atStart => exact ⟨i + 1, 0, _, _, Nat.le_refl _, rfl, rfl, by go_num, by unfold Hid; rw [List.drop_of_length_le (by rw [HMl.out]; exact Nat.le_refl _)]; rfl, rfl⟩
                case round =>
                  clear cell
                  obtain ⟨k, x, j, ki, hk, hki, rfl, rfl, HX, rfl⟩ := hrel
                  rcases Nat.eq_zero_or_pos k with hk0 | hk0
                  · subst hk0
                    obtain rfl : ki = -1 := by omega
                    clear hki
                    go_wp2
                    go_ret
                    rw [HO.out]
                    exact ⟨by rw [HX.out]; rfl, (h.drewN _).setAtI _ (at_ + (i + 1)) (by omega) hfin, grownBy_drewSet _ _ _ _ _⟩
                  · obtain ⟨p, rfl⟩ : ∃ p, k = p + 1 := ⟨k - 1, by omega⟩
                    obtain rfl : ki = (p : Int) := by omega
                    clear hki hk0
                    have hpM : p < M.length := by rw [HMl.out]; omega
                    have hpB : at_ + p < B.length := by rw [HB.out]; have := HB.out; omega
                    have cell := ob.cell (at_ + p) hpB
                    rw [← HMg.out p hpM hpB] at cell
                    have und := un7_drop M p hpM
                    rw [← HX.out] at und
                    generalize M[p] = d at cell und
                    have le1 := un7_drop_le M p
                    rw [und] at le1
                    have st := v7_step x (d.toNat % 128) (un7 M) (by omega) le1 HT.out
                    rw [← und, show ((d.toNat % 128 : Nat) : Int) = (d.toNat : Int) % 128 by omega] at st
                    have ST := hideIt st
                    have j2 : (at_ : Int) + (p : Int) < (n : Int) := by omega
                    have j3 : (0 : Int) ≤ (at_ : Int) + (p : Int) := by omega
                    have jc : ((at_ : Int) + (p : Int)).toNat = at_ + p := by omega
                    clear st und le1
                    go_wp2
                    go_quiet (fail)
                    go_wp2
                    go_roundw
                    case rel => exact ⟨p, _, _, _, by omega, by go_num, by rw [ST.out], rfl, hideIt rfl, rfl⟩
                    case measure => simp [intOf]
              · have hb0 : ((b.toNat : Int) == 0) = false := by
                  rw [beq_eq_false_iff_ne]
                  intro z
                  have : b = 0 := UInt8.toNat_inj.1 (by show b.toNat = 0; omega)
                  have := hz' this
                  omega
                have hi1 : (0 : Int) < (i : Int) := by omega
                by_cases h9 : i = 9
                · have hne : ((i : Int) == 9) = true := by rw [beq_iff_eq]; omega
                  have hb1 := hb9 h9
                  clear h9 hb9 hz'
                  go_wp2
                  go_quiet (fail)
                  go_wp2
                  go_quiet (fail)
                  go_wp2
                  go_loopw [6, 7] (fun xx kk wr => ∃ (k x j : Nat) (ki : Int), k ≤ i + 1 ∧ ki = (k : Int) - 1 ∧ xx = .int .u64 (x : Int) ∧ kk = .int .i64 ki ∧ Hid (x = un7 (M.drop k)) ∧ wr = w.drewN j)
                    (fun _ kk _ => (intOf kk + 1).toNat)
                  case atStart => exact ⟨i + 1, 0, _, _, Nat.le_refl _, rfl, rfl, by go_num, by unfold Hid; rw [List.drop_of_length_le (by rw [HMl.out]; exact Nat.le_refl _)]; rfl, rfl⟩
                  case round =>
                    clear cell
                    obtain ⟨k, x, j, ki, hk, hki, rfl, rfl, HX, rfl⟩ := hrel
                    rcases Nat.eq_zero_or_pos k with hk0 | hk0
                    · subst hk0
                      obtain rfl : ki = -1 := by omega
                      clear hki
                      go_wp2
                      go_ret
                      rw [HO.out]
                      exact ⟨by rw [HX.out]; rfl, (h.drewN _).setAtI _ (at_ + (i + 1)) (by omega) hfin, grownBy_drewSet _ _ _ _ _⟩
                    · obtain ⟨p, rfl⟩ : ∃ p, k = p + 1 := ⟨k - 1, by omega⟩
                      obtain rfl : ki = (p : Int) := by omega
                      clear hki hk0
                      have hpM : p < M.length := by rw [HMl.out]; omega
                      have hpB : at_ + p < B.length := by rw [HB.out]; have := HB.out; omega
                      have cell := ob.cell (at_ + p) hpB
                      rw [← HMg.out p hpM hpB] at cell
                      have und := un7_drop M p hpM
                      rw [← HX.out] at und
                      generalize M[p] = d at cell und
                      have le1 := un7_drop_le M p
                      rw [und] at le1
                      have st := v7_step x (d.toNat % 128) (un7 M) (by omega) le1 HT.out
                      rw [← und, show ((d.toNat % 128 : Nat) : Int) = (d.toNat : Int) % 128 by omega] at st
                      have ST := hideIt st
                      have j2 : (at_ : Int) + (p : Int) < (n : Int) := by omega
                      have j3 : (0 : Int) ≤ (at_ : Int) + (p : Int) := by omega
                      have jc : ((at_ : Int) + (p : Int)).toNat = at_ + p := by omega
                      clear st und le1
                      go_wp2
                      go_quiet (fail)
                      go_wp2
                      go_roundw
                      case rel => exact ⟨p, _, _, _, by omega, by go_num, by rw [ST.out], rfl, hideIt rfl, rfl⟩
                      case measure => simp [intOf]
                · have hne : ((i : Int) == 9) = false := by rw [beq_eq_false_iff_ne]; omega
                  clear h9 hb9 hz'
                  go_wp2
                  go_quiet (fail)
                  go_wp2
                  go_quiet (fail)
                  go_wp2
                  go_loopw [6, 7] (fun xx kk wr => ∃ (k x j : Nat) (ki : Int), k ≤ i + 1 ∧ ki = (k : Int) - 1 ∧ xx = .int .u64 (x : Int) ∧ kk = .int .i64 ki ∧ Hid (x = un7 (M.drop k)) ∧ wr = w.drewN j)
                    (fun _ kk _ => (intOf kk + 1).toNat)
                  case atStart => exact ⟨i + 1, 0, _, _, Nat.le_refl _, rfl, rfl, by go_num, by unfold Hid; rw [List.drop_of_length_le (by rw [HMl.out]; exact Nat.le_refl _)]; rfl, rfl⟩
                  case round =>
                    clear cell
                    obtain ⟨k, x, j, ki, hk, hki, rfl, rfl, HX, rfl⟩ := hrel
                    rcases Nat.eq_zero_or_pos k with hk0 | hk0
                    · subst hk0
                      obtain rfl : ki = -1 := by omega
                      clear hki
                      go_wp2
                      go_ret
                      rw [HO.out]
                      exact ⟨by rw [HX.out]; rfl, (h.drewN _).setAtI _ (at_ + (i + 1)) (by omega) hfin, grownBy_drewSet _ _ _ _ _⟩
                    · obtain ⟨p, rfl⟩ : ∃ p, k = p + 1 := ⟨k - 1, by omega⟩
                      obtain rfl : ki = (p : Int) := by omega
                      clear hki hk0
                      have hpM : p < M.length := by rw [HMl.out]; omega
                      have hpB : at_ + p < B.length := by rw [HB.out]; have := HB.out; omega
                      have cell := ob.cell (at_ + p) hpB
                      rw [← HMg.out p hpM hpB] at cell
                      have und := un7_drop M p hpM
                      rw [← HX.out] at und
                      generalize M[p] = d at cell und
                      have le1 := un7_drop_le M p
                      rw [und] at le1
                      have st := v7_step x (d.toNat % 128) (un7 M) (by omega) le1 HT.out
                      rw [← und, show ((d.toNat % 128 : Nat) : Int) = (d.toNat : Int) % 128 by omega] at st
                      have ST := hideIt st
                      have j2 : (at_ : Int) + (p : Int) < (n : Int) := by omega
                      have j3 : (0 : Int) ≤ (at_ : Int) + (p : Int) := by omega
                      have jc : ((at_ : Int) + (p : Int)).toNat = at_ + p := by omega
                      clear st und le1
                      go_wp2
                      go_quiet (fail)
                      go_wp2
                      go_roundw
                      case rel => exact ⟨p, _, _, _, by omega, by go_num, by rw [ST.out], rfl, hideIt rfl, rfl⟩
                      case measure => simp [intOf]

set_option maxHeartbeats 1000000 in
theorem rV_any (g : Nat) (B : List UInt8) (at_ : Nat) (er : Int) (w : World) (h : Rd w g B at_ er) :
    Calls Try.prog 65 #[.pointer (some ⟨g, 0, none⟩)] w fun en w' => en = .returned (.int .u64 ((vS B at_ er).1 : Nat)) ∧ Rd w' g B (vS B at_ er).2.1 (vS B at_ er).2.2 ∧ w.grownBy w' (some g) := by
  by_cases he : er = 0
  · subst he
    exact rV_ok g B at_ w h
  · have e1 : vS B at_ er = (0, at_, er) := by unfold vS; rw [if_neg he]
    rw [e1]
    have hE : (er == 0) = false := beq_eq_false_iff_ne.2 he
    obtain ⟨gb, n, c, c0, c1, c2, f1, f2, ob, ne, la, ln, lc⟩ := h.laid
    go_enter Try.func65, Try.ntmps65
    go_wp2
    go_ret
    exact ⟨rfl, h, World.grownBy.refl _ _⟩
end Go.Proofs.Ytieoleiokjoccaa
