/- coppicekept.Book.itemsUntouched. -/
import Derived.Test.YtmeakhiiebeneaaGreatDoorJm
namespace Go.Proofs.YtmeakhiiebeneaaGreatDoor
open Go.RowKit

theorem LS.rt {w : World} {base m c : Nat} {A : Option Addr} {ps : List Slot} {tss : List (List Cel)} (h : LS w base 133 4 89 A m c ps (tss.map itvs)) (he : EvI w base tss) (i : Nat) (hi : i < m) : ∃ (ad : Addr) (p : Slot) (zs : List Cel), A = some ad ∧ tss[i]? = some zs ∧ w.cell? (ad.add i) = some (.slice p.1 p.2.1 p.2.2) ∧ RT w p.1 p.2.1 p.2.2 (itvs zs) (its zs) := by
  obtain ⟨ad, p, cs, e, hp, hc, cell, rc⟩ := h.read.at_ i hi
  rw [List.getElem?_map] at hc
  rcases hz : tss[i]? with _ | zs
  · rw [hz] at hc; cases hc
  · rw [hz] at hc
    cases hc
    have hev := he zs (List.mem_of_getElem? hz)
    have hl : zs.length = p.2.1 := by have := rc.len; rw [itvs_length] at this; omega
    refine ⟨ad, p, zs, e, rfl, cell, rc, by rw [its_length, hl], fun j x hj => ?_⟩
    obtain ⟨z, hz', rfl⟩ : ∃ z, zs[j]? = some z ∧ z.x = x := by
      unfold its at hj
      rw [List.getElem?_map] at hj
      rcases hq : zs[j]? with _ | z
      · rw [hq] at hj; cases hj
      · rw [hq] at hj; cases hj; exact ⟨z, rfl, rfl⟩
    obtain ⟨e1, e2, e3, e4⟩ := itvs_get zs j z hz'
    have hm := hev z (List.mem_of_getElem? hz')
    exact ⟨z.p, z.q, e1, e2, e3, e4, hm.1.read, hm.2.read⟩
set_option maxRecDepth 100000 in
set_option maxHeartbeats 4000000 in
theorem itemsUntouched_calls (gk base m : Nat) (t u : Row) (tss uss : List (List Cel)) (w : World) (h2 : w.cell? ⟨gk, 20, none⟩ = some (t.v m)) (h3 : w.cell? ⟨gk, 21, none⟩ = some (u.v m)) (h : Ki w base m t u tss uss) (hm : m ≤ 1000000) :
    Calls Tryz.prog 122 #[.pointer (some ⟨gk, 0, none⟩)] w fun e w' => e = .returned (.bool true) ∧ Below w.heap.size w w' := by
  obtain ⟨At, ct, pt⟩ := t
  obtain ⟨Au, cu, pu⟩ := u
  simp only [Row.v] at *
  have H := hideIt h
  clear h
  go_enter Tryz.func122, Tryz.ntmps122
  go_wp2
  go_loopw [3] (fun ii wr => ∃ i : Nat, i ≤ m ∧ ii = .int .i64 (i : Int) ∧ Below w.heap.size w wr)
    (fun ii _ => m - (intOf ii).toNat)
  case atStart => exact ⟨0, by omega, rfl, Below.refl _ _⟩
  case round =>
    obtain ⟨i, hi, rfl, b⟩ := hrel
    have c2 := (b.cell (World.block_lt_of_cell? w _ h2)).trans h2
    have c3 := (b.cell (World.block_lt_of_cell? w _ h3)).trans h3
    by_cases hlt : i < m
    · have K := hideIt (H.out.below b)
      obtain ⟨ad, ⟨A1, n1, d1⟩, zs, rfl, hz, x1, r1⟩ := LS.rt K.out.kp.ls K.out.e1 i hlt
      obtain ⟨ad', ⟨A2, n2, d2⟩, zs', rfl, hz', y1, r2⟩ := LS.rt K.out.kp.lw K.out.e2 i hlt
      simp only at x1 y1 r1 r2
      have heq : its zs = its zs' := by
        have := congrArg (fun l => l[i]?) K.out.eq
        simp only [List.getElem?_map, hz, hz', Option.map_some] at this
        exact Option.some.inj this
      have i1 : (i : Int) < (m : Int) := by omega
      have bd : Below wr.heap.size wr wr.drew := drew1 wr
      have SI : ∀ W, RT W A1 n1 d1 (itvs zs) (its zs) → RT W A2 n2 d2 (itvs zs') (its zs') → Calls Tryz.prog 108 #[.slice A1 n1 d1, .slice A2 n2 d2] W fun e w' => e = .returned (.bool true) ∧ Below W.heap.size W w' := fun W q1 q2 => SameItems_calls _ _ _ _ _ _ _ _ _ _ W q1 q2 true (by simp [heq])
      have q1 := r1.below bd
      have q2 := r2.below bd
      have c2d : wr.drew.cell? ⟨gk, 20, none⟩ = some (.slice (some ad) m ct) := c2
      have c3d : wr.drew.cell? ⟨gk, 21, none⟩ = some (.slice (some ad') m cu) := c3
      have x1d : wr.drew.cell? (ad.add i) = some (.slice A1 n1 d1) := x1
      have y1d : wr.drew.cell? (ad'.add i) = some (.slice A2 n2 d2) := y1
      clear hz hz' heq r1 r2
      go_wp2
      go_region_held3 (fun w' => w'.cell? ⟨gk, 20, none⟩ = some (.slice (some ad) m ct) ∧ w'.cell? ⟨gk, 21, none⟩ = some (.slice (some ad') m cu) ∧ w'.cell? (ad.add i) = some (.slice A1 n1 d1) ∧ w'.cell? (ad'.add i) = some (.slice A2 n2 d2))
        (first | exact ⟨c2d, c3d, x1d, y1d⟩ | exact ⟨c2e, c3e, x1e, y1e⟩ | go_keep)
        (first
          | (go_at_call 108; (with_reducible refine (SI _ q1 q2).mono ?_); rintro en w2 ⟨rfl, xx⟩; have b2 := blw_step b (blw_step bd xx); have bb := blw_step bd xx; have c2e := (bb.cell (World.block_lt_of_cell? wr _ c2)).trans c2; have c3e := (bb.cell (World.block_lt_of_cell? wr _ c3)).trans c3; have x1e := (bb.cell (World.block_lt_of_cell? wr _ x1)).trans x1; have y1e := (bb.cell (World.block_lt_of_cell? wr _ y1)).trans y1))
      clear c2d c3d x1d y1d c2e c3e x1e y1e bb bd xx q1 q2 SI K
      go_wp2
      go_roundw
      case rel => exact ⟨i + 1, by omega, by go_num, b2⟩
      case measure => simp [intOf]; omega
    · obtain rfl : m = i := by omega
      go_wp2
      go_ret
      exact ⟨rfl, b⟩
end Go.Proofs.YtmeakhiiebeneaaGreatDoor
