/- coppicekept.Book.intsUntouched. -/
import Derived.Test.YtmeakhiiebeneaaGreatDoorJk
import Derived.Test.YtmeakhiiebeneaaGreatDoorJn
import Derived.Test.YtmeakhiiebeneaaGreatDoorNm
namespace Go.Proofs.YtmeakhiiebeneaaGreatDoor
open Go.RowKit

theorem LS.ri {w : World} {base m c : Nat} {A : Option Addr} {ps : List Slot} {xss : List (List Int)} (h : LS w base 3 1 63 A m c ps (xss.map i64s)) (i : Nat) (hi : i < m) : ∃ (ad : Addr) (p : Slot) (zs : List Int), A = some ad ∧ xss[i]? = some zs ∧ w.cell? (ad.add i) = some (.slice p.1 p.2.1 p.2.2) ∧ RI w p.1 p.2.1 p.2.2 zs := by
  obtain ⟨ad, p, cs, e, hp, hc, cell, rc⟩ := h.read.at_ i hi
  rw [List.getElem?_map] at hc
  rcases hz : xss[i]? with _ | zs
  · rw [hz] at hc; cases hc
  · rw [hz] at hc
    cases hc
    exact ⟨ad, p, zs, e, rfl, cell, rc⟩
set_option maxRecDepth 100000 in
set_option maxHeartbeats 4000000 in
theorem intsUntouched_calls (gk base m : Nat) (t u : Row) (xss : List (List Int)) (w : World) (h2 : w.cell? ⟨gk, 5, none⟩ = some (t.v m)) (h3 : w.cell? ⟨gk, 6, none⟩ = some (u.v m)) (h : Kp w base 3 1 63 m t u (xss.map i64s) (xss.map i64s)) (hm : m ≤ 1000000) :
    Calls Tryz.prog 117 #[.pointer (some ⟨gk, 0, none⟩)] w fun e w' => e = .returned (.bool true) ∧ Below w.heap.size w w' := by
  obtain ⟨At, ct, pt⟩ := t
  obtain ⟨Au, cu, pu⟩ := u
  simp only [Row.v] at *
  have H := hideIt h
  clear h
  go_enter Tryz.func117, Tryz.ntmps117
  go_wp2
  go_loopw [3] (fun ii wr => ∃ i : Nat, i ≤ m ∧ ii = .int .i64 (i : Int) ∧ Below w.heap.size w wr)
    (fun ii _ => m - (intOf ii).toNat)
  case atStart => exact ⟨0, by omega, rfl, Below.refl _ _⟩
  case round =>
    obtain ⟨i, hi, rfl, b⟩ := hrel
    have c2 := (b.cell (World.block_lt_of_cell? w _ h2)).trans h2
    have c3 := (b.cell (World.block_lt_of_cell? w _ h3)).trans h3
    by_cases hlt : i < m
    · have K := hideIt (H.out.below b)
      obtain ⟨ad, ⟨A1, n1, d1⟩, zs, rfl, hz, x1, r1⟩ := LS.ri K.out.ls i hlt
      obtain ⟨ad', ⟨A2, n2, d2⟩, zs', rfl, hz', y1, r2⟩ := LS.ri K.out.lw i hlt
      simp only at x1 y1 r1 r2
      obtain rfl : zs = zs' := Option.some.inj (hz.symm.trans hz')
      have i1 : (i : Int) < (m : Int) := by omega
      have bd : Below wr.heap.size wr wr.drew := drew1 wr
      have SI : ∀ W, RI W A1 n1 d1 zs → RI W A2 n2 d2 zs → Calls Tryz.prog 184 #[.slice A1 n1 d1, .slice A2 n2 d2] W fun e w' => e = .returned (.bool true) ∧ Below W.heap.size W w' := fun W q1 q2 => (SameInts_calls _ _ _ _ _ _ _ _ W q1 q2 true (by simp)).mono fun _ _ ⟨e, j, q⟩ => ⟨e, by rw [q]; exact below_drewN (Below.refl _ _) j⟩
      have q1 := r1.below bd
      have q2 := r2.below bd
      have c2d : wr.drew.cell? ⟨gk, 5, none⟩ = some (.slice (some ad) m ct) := c2
      have c3d : wr.drew.cell? ⟨gk, 6, none⟩ = some (.slice (some ad') m cu) := c3
      have x1d : wr.drew.cell? (ad.add i) = some (.slice A1 n1 d1) := x1
      have y1d : wr.drew.cell? (ad'.add i) = some (.slice A2 n2 d2) := y1
      clear hz hz' r1 r2
      go_wp2
      go_region_held3 (fun w' => w'.cell? ⟨gk, 5, none⟩ = some (.slice (some ad) m ct) ∧ w'.cell? ⟨gk, 6, none⟩ = some (.slice (some ad') m cu) ∧ w'.cell? (ad.add i) = some (.slice A1 n1 d1) ∧ w'.cell? (ad'.add i) = some (.slice A2 n2 d2))
        (first | exact ⟨c2d, c3d, x1d, y1d⟩ | exact ⟨c2e, c3e, x1e, y1e⟩ | go_keep)
        (first
          | (go_at_call 184; (with_reducible refine (SI _ q1 q2).mono ?_); rintro en w2 ⟨rfl, xx⟩; have b2 := blw_step b (blw_step bd xx); have bb := blw_step bd xx; have c2e := (bb.cell (World.block_lt_of_cell? wr _ c2)).trans c2; have c3e := (bb.cell (World.block_lt_of_cell? wr _ c3)).trans c3; have x1e := (bb.cell (World.block_lt_of_cell? wr _ x1)).trans x1; have y1e := (bb.cell (World.block_lt_of_cell? wr _ y1)).trans y1))
      clear c2d c3d x1d y1d c2e c3e x1e y1e bb bd xx q1 q2 SI K
      go_wp2
      go_roundw
      case rel => exact ⟨i + 1, by omega, by go_num, b2⟩
      case measure => simp [intOf]; omega
    · obtain rfl : m = i := by omega
      go_wp2
      go_ret
      exact ⟨rfl, b⟩
end Go.Proofs.YtmeakhiiebeneaaGreatDoor
