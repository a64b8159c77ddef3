/- SameByteLists. -/
import Derived.Test.YtmeakhiiebeneaaGreatDoorM1
import Derived.Deep.QuietTactic
import Derived.BigQuiet
import Derived.Test.YtmeakhiiebeneaaGreatDoorN3
import Derived.Test.YtmeakhiiebeneaaGreatDoorN4
import Derived.Test.YtmeakhiiebeneaaGreatDoorBi
import Derived.Test.YtmeakhiiebeneaaGreatDoorJNg
namespace Go.Proofs.YtmeakhiiebeneaaGreatDoor
open Go.RowKit

theorem RM.drew_ {w : World} {A : Option Addr} {n c : Nat} {vs : List Value} {xss : List (List UInt8)} (h : RM w A n c vs xss) (m : Nat) : RM (w.drewN m) A n c vs xss := h.below ⟨rfl, rfl, rfl, Nat.le_refl _, fun _ _ => rfl⟩
theorem RB.drew_ {w : World} {A : Option Addr} {n c : Nat} {xs : List UInt8} (h : RB w A n c xs) (m : Nat) : RB (w.drewN m) A n c xs := h.below ⟨rfl, rfl, rfl, Nat.le_refl _, fun _ _ => rfl⟩
theorem take_eq_step {α : Type} {l m : List α} {i : Nat} {x y : α} (h : l.take i = m.take i) (hx : l[i]? = some x) (hy : m[i]? = some y) (e : x = y) : l.take (i + 1) = m.take (i + 1) := by
  rw [List.take_add_one, List.take_add_one, hx, hy, h, e]
theorem ne_at {α : Type} {l m : List α} {i : Nat} {x y : α} (hx : l[i]? = some x) (hy : m[i]? = some y) (e : x ≠ y) : l ≠ m := by
  rintro rfl; rw [hx] at hy; injection hy with hy; exact e hy
theorem take_all_eq {α : Type} {l m : List α} {n : Nat} (h : l.take n = m.take n) (h1 : l.length = n) (h2 : m.length = n) : l = m := by
  rw [List.take_of_length_le (by omega), List.take_of_length_le (by omega)] at h; exact h

set_option maxRecDepth 100000 in
set_option maxHeartbeats 2000000 in
theorem SameByteLists_calls (A A' : Option Addr) (n c n' c' : Nat) (vs vs' : List Value) (xss yss : List (List UInt8)) (w : World) (h : RM w A n c vs xss) (h' : RM w A' n' c' vs' yss) (r : Bool) (hr : r = decide (xss = yss)) :
    Calls Tryz.prog 32 #[.slice A n c, .slice A' n' c'] w fun e w' => e = .returned (.bool r) ∧ ∃ j, w' = w.drewN j := by
  have HL := hideIt h.len
  have HL' := hideIt h'.len
  have hmx : n ≤ 9223372036854775807 := by have h1 := RC.le h.rc; have h2 := RC.mx h.rc; rw [maxLen_is] at h2; omega
  by_cases hn : n = n'
  · subst hn
    have HR := hideIt hr
    clear hr
    go_enter Tryz.func32, Tryz.ntmps32
    go_wp2
    go_loopw [5] (fun ii wr => ∃ i, i ≤ n ∧ ii = .int .i64 (i : Int) ∧ Hid (xss.take i = yss.take i) ∧ ∃ j, wr = w.drewN j)
      (fun ii _ => n - (intOf ii).toNat)
    case atStart => exact ⟨0, by omega, rfl, hideIt rfl, 0, rfl⟩
    case round =>
      obtain ⟨i, hi, rfl, HT, j, hw⟩ := hrel
      have hr1 : RM wr A n c vs xss := by rw [hw]; exact h.drew_ j
      have hr2 : RM wr A' n c' vs' yss := by rw [hw]; exact h'.drew_ j
      have HW := hideIt hw
      clear hw
      by_cases hlt : i < n
      · obtain ⟨ad, A1, n1, c1, x, rfl, hx, cx, rx⟩ := hr1.row i hlt
        obtain ⟨ad', A2, n2, c2, y, rfl, hy, cy, ry⟩ := hr2.row i hlt
        have i1 : (i : Int) < (n : Int) := by omega
        by_cases e : x = y
        · have st := hideIt (take_eq_step HT.out hx hy e)
          have con : ∀ m, Calls Tryz.prog 12 #[.slice A1 n1 c1, .slice A2 n2 c2] (wr.drewN m) fun e w' => e = .returned (.bool true) ∧ w' = wr.drewN m := fun m =>
            (SameBytes_calls _ _ _ _ _ _ _ _ _ (rx.drew_ m) (ry.drew_ m) true (by simp [e])).mono fun _ _ ⟨a, b⟩ => ⟨a, b.symm⟩
          clear e hx hy
          go_wp2
          go_quiet (first | (go_at_call 12; exact Calls.quiet_of_same (con _)))
          go_wp2
          go_roundw
          case rel => exact ⟨i + 1, by omega, by go_num, st, _, by rw [HW.out, World.drewN_drewN]⟩
          case measure => simp [intOf]; omega
        · have hf : r = false := by rw [HR.out]; exact decide_eq_false (ne_at hx hy e)
          subst hf
          have con : ∀ m, Calls Tryz.prog 12 #[.slice A1 n1 c1, .slice A2 n2 c2] (wr.drewN m) fun e w' => e = .returned (.bool false) ∧ w' = wr.drewN m := fun m =>
            (SameBytes_calls _ _ _ _ _ _ _ _ _ (rx.drew_ m) (ry.drew_ m) false (by simp [e])).mono fun _ _ ⟨a, b⟩ => ⟨a, b.symm⟩
          clear e hx hy
          go_wp2
          go_quiet (first | (go_at_call 12; exact Calls.quiet_of_same (con _)))
          go_wp2
          go_ret
          exact ⟨rfl, _, by rw [HW.out, World.drewN_drewN]⟩
      · obtain rfl : n = i := by omega
        have ht : r = true := by rw [HR.out]; exact decide_eq_true (take_all_eq HT.out HL.out HL'.out)
        subst ht
        go_wp2
        go_ret
        exact ⟨rfl, j, HW.out⟩
  · have hf : r = false := by
      rw [hr]
      exact decide_eq_false (fun q => hn (by rw [← HL.out, ← HL'.out, q]))
    subst hf
    have e0 : ((n : Int) == (n' : Int)) = false := beq_eq_false_iff_ne.2 (by omega)
    have e1 : ((n : Int) != (n' : Int)) = true := by simp only [bne, e0]; rfl
    clear hn hr
    go_enter Tryz.func32, Tryz.ntmps32
    go_wp2
    go_ret
    exact ⟨rfl, 0, rfl⟩
end Go.Proofs.YtmeakhiiebeneaaGreatDoor
namespace Go.Proofs.YtmeakhiiebeneaaGreatDoor
open Go.RowKit

theorem RI.drew_ {w : World} {A : Option Addr} {n c : Nat} {l : List Int} (h : RI w A n c l) (m : Nat) : RI (w.drewN m) A n c l := h.below ⟨rfl, rfl, rfl, Nat.le_refl _, fun _ _ => rfl⟩
set_option maxRecDepth 100000 in
set_option maxHeartbeats 2000000 in
theorem SameInts_calls (A A' : Option Addr) (n c n' c' : Nat) (l m : List Int) (w : World) (h : RI w A n c l) (h' : RI w A' n' c' m) (r : Bool) (hr : r = decide (l = m)) :
    Calls Tryz.prog 184 #[.slice A n c, .slice A' n' c'] w fun e w' => e = .returned (.bool r) ∧ ∃ j, w' = w.drewN j := by
  have HL := hideIt h.len
  have HL' := hideIt h'.len
  have hmx := h.max
  by_cases hn : n = n'
  · subst hn
    have HR := hideIt hr
    clear hr
    go_enter Tryz.func184, Tryz.ntmps184
    go_wp2
    go_loopw [5] (fun ii wr => ∃ i, i ≤ n ∧ ii = .int .i64 (i : Int) ∧ Hid (l.take i = m.take i) ∧ ∃ j, wr = w.drewN j)
      (fun ii _ => n - (intOf ii).toNat)
    case atStart => exact ⟨0, by omega, rfl, hideIt rfl, 0, rfl⟩
    case round =>
      obtain ⟨i, hi, rfl, HT, j, hw⟩ := hrel
      have hr1 : RI wr A n c l := by rw [hw]; exact h.drew_ j
      have hr2 : RI wr A' n c' m := by rw [hw]; exact h'.drew_ j
      have HW := hideIt hw
      clear hw
      by_cases hlt : i < n
      · have hl1 : i < l.length := by rw [HL.out]; exact hlt
        have hl2 : i < m.length := by rw [HL'.out]; exact hlt
        obtain ⟨ad, rfl, cx⟩ := hr1.at_ i hl1
        obtain ⟨ad', rfl, cy⟩ := hr2.at_ i hl2
        have hx : l[i]? = some l[i] := List.getElem?_eq_getElem hl1
        have hy : m[i]? = some m[i] := List.getElem?_eq_getElem hl2
        generalize l[i] = x at cx hx
        generalize m[i] = y at cy hy
        have i1 : (i : Int) < (n : Int) := by omega
        by_cases e : x = y
        · subst e
          have st := hideIt (take_eq_step HT.out hx hy rfl)
          clear hx hy
          go_wp2
          go_quiet (fail)
          go_wp2
          go_roundw
          case rel => exact ⟨i + 1, by omega, by go_num, st, _, by rw [HW.out, World.drewN_drewN]⟩
          case measure => simp [intOf]; omega
        · have hf : r = false := by rw [HR.out]; exact decide_eq_false (ne_at hx hy e)
          subst hf
          have e0 : (x == y) = false := beq_eq_false_iff_ne.2 e
          clear e hx hy
          go_wp2
          go_quiet (fail)
          go_wp2
          go_ret
          exact ⟨rfl, _, by rw [HW.out, World.drewN_drewN]⟩
      · obtain rfl : n = i := by omega
        have ht : r = true := by rw [HR.out]; exact decide_eq_true (take_all_eq HT.out HL.out HL'.out)
        subst ht
        go_wp2
        go_ret
        exact ⟨rfl, j, HW.out⟩
  · have hf : r = false := by
      rw [hr]
      exact decide_eq_false (fun q => hn (by rw [← HL.out, ← HL'.out, q]))
    subst hf
    have e0 : ((n : Int) == (n' : Int)) = false := beq_eq_false_iff_ne.2 (by omega)
    have e1 : ((n : Int) != (n' : Int)) = true := by simp only [bne, e0]; rfl
    clear hn hr
    go_enter Tryz.func184, Tryz.ntmps184
    go_wp2
    go_ret
    exact ⟨rfl, 0, rfl⟩
end Go.Proofs.YtmeakhiiebeneaaGreatDoor
namespace Go.Proofs.YtmeakhiiebeneaaGreatDoor
open Go.RowKit

theorem LS.ri {w : World} {base m c : Nat} {A : Option Addr} {ps : List Slot} {xss : List (List Int)} (h : LS w base 3 1 63 A m c ps (xss.map i64s)) (i : Nat) (hi : i < m) : ∃ (ad : Addr) (p : Slot) (zs : List Int), A = some ad ∧ xss[i]? = some zs ∧ w.cell? (ad.add i) = some (.slice p.1 p.2.1 p.2.2) ∧ RI w p.1 p.2.1 p.2.2 zs := by
  obtain ⟨ad, p, cs, e, hp, hc, cell, rc⟩ := h.read.at_ i hi
  rw [List.getElem?_map] at hc
  rcases hz : xss[i]? with _ | zs
  · rw [hz] at hc; cases hc
  · rw [hz] at hc
    cases hc
    exact ⟨ad, p, zs, e, rfl, cell, rc⟩
set_option maxRecDepth 100000 in
set_option maxHeartbeats 4000000 in
theorem intsUntouched_calls (gk base m : Nat) (t u : Row) (xss : List (List Int)) (w : World) (h2 : w.cell? ⟨gk, 5, none⟩ = some (t.v m)) (h3 : w.cell? ⟨gk, 6, none⟩ = some (u.v m)) (h : Kp w base 3 1 63 m t u (xss.map i64s) (xss.map i64s)) (hm : m ≤ 1000000) :
    Calls Tryz.prog 117 #[.pointer (some ⟨gk, 0, none⟩)] w fun e w' => e = .returned (.bool true) ∧ Below w.heap.size w w' := by
  obtain ⟨At, ct, pt⟩ := t
  obtain ⟨Au, cu, pu⟩ := u
  simp only [Row.v] at *
  have H := hideIt h
  clear h
  go_enter Tryz.func117, Tryz.ntmps117
  go_wp2
  go_loopw [3] (fun ii wr => ∃ i : Nat, i ≤ m ∧ ii = .int .i64 (i : Int) ∧ Below w.heap.size w wr)
    (fun ii _ => m - (intOf ii).toNat)
  case atStart => exact ⟨0, by omega, rfl, Below.refl _ _⟩
  case round =>
    obtain ⟨i, hi, rfl, b⟩ := hrel
    have c2 := (b.cell (World.block_lt_of_cell? w _ h2)).trans h2
    have c3 := (b.cell (World.block_lt_of_cell? w _ h3)).trans h3
    by_cases hlt : i < m
    · have K := hideIt (H.out.below b)
      obtain ⟨ad, ⟨A1, n1, d1⟩, zs, rfl, hz, x1, r1⟩ := LS.ri K.out.ls i hlt
      obtain ⟨ad', ⟨A2, n2, d2⟩, zs', rfl, hz', y1, r2⟩ := LS.ri K.out.lw i hlt
      simp only at x1 y1 r1 r2
      obtain rfl : zs = zs' := Option.some.inj (hz.symm.trans hz')
      have i1 : (i : Int) < (m : Int) := by omega
      have bd : Below wr.heap.size wr wr.drew := drew1 wr
      have SI : ∀ W, RI W A1 n1 d1 zs → RI W A2 n2 d2 zs → Calls Tryz.prog 184 #[.slice A1 n1 d1, .slice A2 n2 d2] W fun e w' => e = .returned (.bool true) ∧ Below W.heap.size W w' := fun W q1 q2 => (SameInts_calls _ _ _ _ _ _ _ _ W q1 q2 true (by simp)).mono fun _ _ ⟨e, j, q⟩ => ⟨e, by rw [q]; exact below_drewN (Below.refl _ _) j⟩
      have q1 := r1.below bd
      have q2 := r2.below bd
      have c2d : wr.drew.cell? ⟨gk, 5, none⟩ = some (.slice (some ad) m ct) := c2
      have c3d : wr.drew.cell? ⟨gk, 6, none⟩ = some (.slice (some ad') m cu) := c3
      have x1d : wr.drew.cell? (ad.add i) = some (.slice A1 n1 d1) := x1
      have y1d : wr.drew.cell? (ad'.add i) = some (.slice A2 n2 d2) := y1
      clear hz hz' r1 r2
      go_wp2
      go_region_held3 (fun w' => w'.cell? ⟨gk, 5, none⟩ = some (.slice (some ad) m ct) ∧ w'.cell? ⟨gk, 6, none⟩ = some (.slice (some ad') m cu) ∧ w'.cell? (ad.add i) = some (.slice A1 n1 d1) ∧ w'.cell? (ad'.add i) = some (.slice A2 n2 d2))
        (first | exact ⟨c2d, c3d, x1d, y1d⟩ | exact ⟨c2e, c3e, x1e, y1e⟩ | go_keep)
        (first
          | (go_at_call 184; (with_reducible refine (SI _ q1 q2).mono ?_); rintro en w2 ⟨rfl, xx⟩; have b2 := blw_step b (blw_step bd xx); have bb := blw_step bd xx; have c2e := (bb.cell (World.block_lt_of_cell? wr _ c2)).trans c2; have c3e := (bb.cell (World.block_lt_of_cell? wr _ c3)).trans c3; have x1e := (bb.cell (World.block_lt_of_cell? wr _ x1)).trans x1; have y1e := (bb.cell (World.block_lt_of_cell? wr _ y1)).trans y1))
      clear c2d c3d x1d y1d c2e c3e x1e y1e bb bd xx q1 q2 SI K
      go_wp2
      go_roundw
      case rel => exact ⟨i + 1, by omega, by go_num, b2⟩
      case measure => simp [intOf]; omega
    · obtain rfl : m = i := by omega
      go_wp2
      go_ret
      exact ⟨rfl, b⟩
end Go.Proofs.YtmeakhiiebeneaaGreatDoor
namespace Go.Proofs.YtmeakhiiebeneaaGreatDoor
open Go.RowKit

theorem ShortB.of1 {css : List (List Value)} (h : ∀ cs ∈ css, cs.length ≤ 900000 * 1) : ShortB css := fun cs hc => by have := h cs hc; omega
def UB (base m : Nat) (r s : Row) (xss : List (List UInt8)) (w : World) : Prop := Kp w base 5 1 40 m r s (xss.map u8s) (xss.map u8s)
def KC.bytes {B gk id0 : Nat} (base m : Nat) (r s : Row) (xss : List (List UInt8)) (hm : m ≤ 900000) (hid : id0 ≤ 1000000) : KC B gk base 0 id0 :=
  KC.lists base 5 1 40 m 900000 r (s.v m) (fun q css => MarkedB (q : Int) id0 m css) (UB base m r s xss) (fun h b => Kp.below h b)
    (fun w bs bk e0 e1 h => (bytesUntouched_calls gk m r.c s.c r.A s.A _ _ xss w (OC.cell bk 2 _ e0) (OC.cell bk 3 _ e1) h.ls.read.rm h.lw.read.rm (by omega)).mono fun _ _ ⟨a, j, e⟩ => ⟨a, e ▸ below_drewN (Below.refl _ _) j⟩)
    (fun w bs css q hq bk e1 e2 ls l => (bytesWrite_calls gk base m r.c id0 (q : Int) r.A r.ps bs css w bk e1 e2 ls (ShortB.of1 l) (by omega) hid).mono fun _ _ ⟨css', a, b, _, d, f, g⟩ => ⟨css', a, b, d, f, g⟩)
    (fun w bs css zss Ag mg cg qs q hq bk e1 e2 e4 h1 k1 l1 h2 hmg k2 l2 => (bytesHold_calls gk m r.c mg cg id0 (q : Int) r.A Ag r.ps qs css zss w (OC.cell bk 1 _ e1) (OC.cell bk 2 _ e2) (OC.cell bk 4 _ e4) h1 k1 (fun cs hc => by have := l1 cs hc; omega) h2 hmg k2 (fun cs hc => by have := l2 cs hc; omega) (by omega) hid).mono fun _ _ ⟨a, b⟩ => ⟨a, b ▸ Below.refl _ _⟩)
    (fun w bs css B2 n mg cg Ag F hn bk e1 e2 e4 g h1 h2 => bytesGrow_t gk base B2 m r.c id0 900000 n mg cg 1 r.A Ag r.ps bs css F w bk e1 e2 e4 g (by omega) (by omega) hm hid h1 h2)
    (fun q => MarkedB.nil _ _ _)
theorem MarkN.cast (q id0 m : Nat) (css : List (List Value)) (h : MarkR (mkN (q : Int)) id0 m css) : MarkR (mkN (q : Int)) id0 m css := h
def UN (base m : Nat) (r s : Row) (xss : List (List Int)) (w : World) : Prop := Kp w base 3 1 63 m r s (xss.map i64s) (xss.map i64s)
def KC.ints {B gk id0 : Nat} (base m : Nat) (r s : Row) (xss : List (List Int)) (hm : m ≤ 900000) (hid : id0 ≤ 1000000) : KC B gk base 1 id0 :=
  KC.lists base 3 1 63 m 900000 r (s.v m) (fun q css => MarkR (mkN (q : Int)) id0 m css) (UN base m r s xss) (fun h b => Kp.below h b)
    (fun w bs bk e0 e1 h => intsUntouched_calls gk base m r s xss w (OC.cell bk 5 _ e0) (OC.cell bk 6 _ e1) h (by omega))
    (fun w bs css q hq bk e1 e2 ls l => intsWrite_calls gk base m r.c id0 900000 (q : Int) r.A r.ps bs css w bk e1 e2 ls l (by omega) hid (by omega) (by omega) (by omega))
    (fun w bs css zss Ag mg cg qs q hq bk e1 e2 e4 h1 k1 l1 h2 hmg k2 l2 => intsHold_calls gk m r.c mg cg id0 900000 (900000 + 70) (q : Int) r.A Ag r.ps qs css zss w (OC.cell bk 1 _ e1) (OC.cell bk 5 _ e2) (OC.cell bk 7 _ e4) h1 k1 l1 h2 hmg k2 l2 (by omega) hid (by omega) (by omega) (by omega) (by omega))
    (fun w bs css B2 n mg cg Ag F hn bk e1 e2 e4 g h1 h2 => intsGrow_t gk base B2 m r.c id0 900000 n mg cg 1 r.A Ag r.ps bs css F w bk e1 e2 e4 g (by omega) (by omega) hm hid h1 h2 (by omega) (by omega))
    (fun q => MarkR.nil _ _ _)
end Go.Proofs.YtmeakhiiebeneaaGreatDoor
