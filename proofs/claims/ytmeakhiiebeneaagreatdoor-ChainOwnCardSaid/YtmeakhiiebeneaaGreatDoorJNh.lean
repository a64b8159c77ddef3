/- coppicekept.Book.intsHold. -/
import Derived.Test.YtmeakhiiebeneaaGreatDoorJNw
import Derived.Deep.CutRange
namespace Go.Proofs.YtmeakhiiebeneaaGreatDoor
open Go.RowKit

def HoldN (z : Nat) (w : World) (e : Ending) (w' : World) : Prop := e = .returned (.tuple #[.int .i64 (z : Int), .bool true]) ∧ Below w.heap.size w w'
set_option maxRecDepth 100000 in
set_option maxHeartbeats 4000000 in
theorem intsHold_calls (gk m cb mg cg id0 K K2 : Nat) (p : Int) (Ab Ag : Option Addr) (ps qs : List Slot) (css zss : List (List Value)) (w : World) (hc1 : w.cell? ⟨gk, 1, none⟩ = some (.int .i64 p)) (hc2 : w.cell? ⟨gk, 5, none⟩ = some (.slice Ab m cb)) (hc4 : w.cell? ⟨gk, 7, none⟩ = some (.slice Ag mg cg))
    (h : RS w 1 Ab m cb ps css) (k1 : MarkR (mkN p) id0 m css) (s1 : ∀ cs ∈ css, cs.length ≤ K * 1) (g : RS w 1 Ag mg cg qs zss) (hmg : mg = 0 ∨ mg = m) (k2 : MarkR (mkN p) id0 m zss) (s2 : ∀ cs ∈ zss, cs.length ≤ K2 * 1) (hm : m ≤ 1000000) (h0 : id0 ≤ 1000000) (p0 : 0 ≤ p) (p1 : p ≤ 1) (hK : K ≤ 1000000) (hK2 : K2 ≤ 2000000) :
    Calls Tryz.prog 143 #[.pointer (some ⟨gk, 0, none⟩), .int .i64 (id0 : Int)] w (HoldN (id0 + m) w) := by
  have K1 := hideIt k1
  have K2 := hideIt k2
  have S1 := hideIt s1
  have S2 := hideIt s2
  have HMG := hideIt hmg
  have HR := hideIt h
  have GR' := hideIt g
  clear k1 k2 s1 s2 hmg h g
  go_enter Tryz.func143, Tryz.ntmps143
  go_wp2
  go_loopw [1, 6, 7] (fun dd aa ii wr => ∃ (i id : Nat), i ≤ m ∧ Hid (id = id0 + i) ∧ dd = .int .i64 (id : Int) ∧ aa = .bool true ∧ ii = .int .i64 (i : Int) ∧ Below w.heap.size w wr)
    (fun _ _ ii _ => m - (intOf ii).toNat)
  case atStart => exact ⟨0, id0, by omega, hideIt rfl, rfl, rfl, rfl, Below.refl _ _⟩
  case round =>
    obtain ⟨i, id, hi, HI, rfl, rfl, rfl, b⟩ := hrel
    have c2 := (b.cell (World.block_lt_of_cell? w _ hc2)).trans hc2
    have c4 := (b.cell (World.block_lt_of_cell? w _ hc4)).trans hc4
    have c1 := (b.cell (World.block_lt_of_cell? w _ hc1)).trans hc1
    by_cases hlt : i < m
    · obtain ⟨ad, q, cs, rfl, hq, hc, cell, rc⟩ := (HR.out.below b).at_ i hlt
      obtain ⟨A1, n1, d1⟩ := q
      simp only at cell rc
      have cl : cs.length = n1 * 1 := rc.len
      have ce := K1.out.at_ (by decide) (fun _ _ => rfl) hlt hc cl
      have sl := S1.out cs (List.mem_of_getElem? hc)
      rw [cl] at sl
      have idl : id ≤ 2000000 := by rw [HI.out]; omega
      rw [ce, ← HI.out] at rc
      have SH := intsShow_calls gk p ((id : Int) + 1) (id + 1) A1 n1 d1 wr c1 (by omega) p0 p1 rc (by omega) (by omega)
      have i1 : (i : Int) < (m : Int) := by omega
      have HI2 : Hid (id + 1 = id0 + (i + 1)) := hideIt (by rw [HI.out]; omega)
      clear hq hc cl ce sl rc
      go_upto_region 7 with (go_at_call 207; (with_reducible refine SH.mono ?_); rintro en wx ⟨rfl, xx⟩)
      have b2 := blw_step b xx
      clear c2 c4 cell SH xx
      have c2 := (b2.cell (World.block_lt_of_cell? w _ hc2)).trans hc2
      have c4 := (b2.cell (World.block_lt_of_cell? w _ hc4)).trans hc4
      rcases HMG.out with z | z
      · subst z
        have t1 : decide ((i : Int) < 0) = false := decide_eq_false (by omega)
        go_wp2
        go_roundw
        case rel => exact ⟨i + 1, id + 1, by omega, HI2, by go_num, rfl, by go_num, b2⟩
        case measure => simp [intOf]; omega
      · subst z
        have c1 := (b2.cell (World.block_lt_of_cell? w _ hc1)).trans hc1
        obtain ⟨ad2, q, cs, rfl, hq, hc, cell2, rc⟩ := (GR'.out.below b2).at_ i hlt
        obtain ⟨A2, n2, d2⟩ := q
        simp only at cell2 rc
        have cl : cs.length = n2 * 1 := rc.len
        have ce := K2.out.at_ (by decide) (fun _ _ => rfl) hlt hc cl
        have sl := S2.out cs (List.mem_of_getElem? hc)
        rw [cl] at sl
        rw [ce, ← HI.out] at rc
        have SH2 := intsShow_calls gk p ((id : Int) + 1) (id + 1) A2 n2 d2 wx c1 (by omega) p0 p1 rc (by omega) (by omega)
        have t1 : decide (i < mg) = true := decide_eq_true hlt
        clear hq hc cl ce sl rc
        go_wp2_with (go_at_call 207; (with_reducible refine SH2.mono ?_); rintro en wy ⟨rfl, xy⟩)
        have b3 := blw_step b2 xy
        go_roundw
        case rel => exact ⟨i + 1, id + 1, by omega, HI2, by go_num, rfl, by go_num, b3⟩
        case measure => simp [intOf]; omega
    · obtain rfl : m = i := by omega
      have E : Hid (id = id0 + m) := hideIt HI.out
      go_wp2
      go_ret2
      rw [← E.out]
      exact ⟨rfl, b⟩
end Go.Proofs.YtmeakhiiebeneaaGreatDoor
