/- coppicekept.Book, lists of bytes: bytesHold; what one turn of bytesGrow does, with no program in sight. -/
import Derived.Test.YtmeakhiiebeneaaGreatDoorKb
import Derived.Deep.CutRange
namespace Go.Proofs.YtmeakhiiebeneaaGreatDoor
open Go.RowKit

def HoldB (z : Nat) (w : World) (e : Ending) (w' : World) : Prop := e = .returned (.tuple #[.int .i64 (z : Int), .bool true]) ∧ w = w'
set_option maxRecDepth 100000 in
set_option maxHeartbeats 2000000 in
theorem bytesHold_calls (gk m cb mg cg id0 : Nat) (p : Int) (Ab Ag : Option Addr) (ps qs : List Slot) (css zss : List (List Value)) (w : World) (c1 : w.cell? ⟨gk, 1, none⟩ = some (.int .i64 p)) (c2 : w.cell? ⟨gk, 2, none⟩ = some (.slice Ab m cb)) (c4 : w.cell? ⟨gk, 4, none⟩ = some (.slice Ag mg cg))
    (h : RS w 1 Ab m cb ps css) (k1 : MarkedB p id0 m css) (s1 : ShortB css) (g : RS w 1 Ag mg cg qs zss) (hmg : mg = 0 ∨ mg = m) (k2 : MarkedB p id0 m zss) (s2 : ShortB zss) (hm : m ≤ 1000000) (h0 : id0 ≤ 1000000) :
    Calls Tryz.prog 142 #[.pointer (some ⟨gk, 0, none⟩), .int .i64 (id0 : Int)] w (HoldB (id0 + m) w) := by
  have K1 := hideIt k1
  have K2 := hideIt k2
  have S1 := hideIt s1
  have S2 := hideIt s2
  have HMG := hideIt hmg
  clear k1 k2 s1 s2 hmg
  go_enter Tryz.func142, Tryz.ntmps142
  go_wp2
  go_loop [1, 6, 7] (fun dd aa ii => ∃ (i id : Nat), i ≤ m ∧ Hid (id = id0 + i) ∧ dd = .int .i64 (id : Int) ∧ aa = .bool true ∧ ii = .int .i64 (i : Int))
    (fun _ _ ii => m - (intOf ii).toNat)
  case atStart => exact ⟨0, id0, by omega, hideIt rfl, rfl, rfl, rfl⟩
  case round =>
    obtain ⟨i, id, hi, HI, rfl, rfl, rfl⟩ := hrel
    by_cases hlt : i < m
    · obtain ⟨ad, q, cs, rfl, hq, hc, cell, rc⟩ := h.at_ i hlt
      obtain ⟨A1, n1, d1⟩ := q
      simp only at cell rc
      have cl : cs.length = n1 := by have := rc.len; omega
      have ce := K1.out i cs hlt hc
      have sl := S1.out.at_ hc
      rw [cl] at ce sl
      have idl : id ≤ 2000000 := by rw [HI.out]; omega
      rw [ce, ← HI.out] at rc
      have SH := bytesShow_of gk p ((id : Int) + 1) (id + 1) A1 n1 d1 w c1 (by omega) rc (by omega) (by omega)
      have i1 : (i : Int) < (m : Int) := by omega
      have HI2 : Hid (id + 1 = id0 + (i + 1)) := hideIt (by rw [HI.out]; omega)
      clear hq hc cl ce sl rc
      go_upto_region 7 with (go_at_call 206; refine SH.mono ?_; rintro en wx ⟨rfl, rfl⟩)
      rcases HMG.out with z | z
      · subst z
        have t1 : decide ((i : Int) < 0) = false := decide_eq_false (by omega)
        clear SH
        go_wp2
        go_round
        case rel => exact ⟨i + 1, id + 1, by omega, HI2, by go_num, rfl, by go_num⟩
        case measure => simp [intOf]; omega
      · subst z
        obtain ⟨ad2, q, cs, rfl, hq, hc, cell2, rc⟩ := g.at_ i hlt
        obtain ⟨A2, n2, d2⟩ := q
        simp only at cell2 rc
        have cl : cs.length = n2 := by have := rc.len; omega
        have ce := K2.out i cs hlt hc
        have sl := S2.out.at_ hc
        rw [cl] at ce sl
        rw [ce, ← HI.out] at rc
        have SH2 := bytesShow_of gk p ((id : Int) + 1) (id + 1) A2 n2 d2 w c1 (by omega) rc (by omega) (by omega)
        have t1 : decide (i < mg) = true := decide_eq_true hlt
        clear hq hc cl ce sl rc SH
        go_wp2_with (go_at_call 206; refine SH2.mono ?_; rintro en wx ⟨rfl, rfl⟩)
        go_round
        case rel => exact ⟨i + 1, id + 1, by omega, HI2, by go_num, rfl, by go_num⟩
        case measure => simp [intOf]; omega
    · obtain rfl : m = i := by omega
      have E : Hid (id = id0 + m) := hideIt HI.out
      go_wp2
      go_ret2
      rw [← E.out]
      exact ⟨rfl, rfl⟩

/-! ### one turn of growing -/
theorem OC.past {w w3 : World} {base e sz e' sz' g0 n' c' n c g3 c3 : Nat} {A : Option Addr} {xs cs' : List Value} (o : OC w e' sz' g0 n' c' cs') (own : GC w base e sz A n c xs) (ne : e' ≠ e)
    (q : (∃ g, A = some ⟨g, 0, none⟩ ∧ g3 = g ∧ c3 = c ∧ w.grownBy w3 (some g)) ∨ (w.heap.size ≤ g3 ∧ w.grownBy w3 none)) : OC w3 e' sz' g0 n' c' cs' := by
  rcases q with ⟨g, rfl, -, -, k⟩ | ⟨-, k⟩
  · exact o.apart own k ne
  · exact o.same (Sm.of_grown k o.lt (by simp))
theorem GC.past {w w3 : World} {base e sz base' e' sz' n' c' n c g3 c3 : Nat} {A A' : Option Addr} {xs cs' : List Value} (o : GC w base' e' sz' A' n' c' cs') (own : GC w base e sz A n c xs) (ne : e' ≠ e)
    (q : (∃ g, A = some ⟨g, 0, none⟩ ∧ g3 = g ∧ c3 = c ∧ w.grownBy w3 (some g)) ∨ (w.heap.size ≤ g3 ∧ w.grownBy w3 none)) : GC w3 base' e' sz' A' n' c' cs' := by
  rcases o.oc with ⟨rfl, rfl, rfl, rfl⟩ | ⟨g, rfl, hb, o'⟩
  · exact GC.nil _ _ _ _
  · exact GC.of (o'.past own ne q) hb
def GrowD (ps : List Slot) (B2 : Nat) (g : Nat) : Prop := InPs ps g ∨ B2 ≤ g
theorem take_set_row (qs : List Slot) (i mg : Nat) (P : Slot) : ((qs.take mg).map sv).set i (sv P) = ((qs.set i P).take mg).map sv := by
  rw [← List.map_set, List.take_set]
/-- One list is grown: its slice is laid into the row anew. -/
theorem grow_step {w w3 : World} {gk base e sz rt B2 gg i mg cg n1 k1 g3 c3 m cb : Nat} {Ab A1 : Option Addr} {BS : List Value} {ps qs : List Slot} {css zss : List (List Value)} {zs ys : List Value} (ne : e ≠ rt) (nk1 : 39 ≠ e) (nk2 : 39 ≠ rt)
    (bk : Bk w gk BS) (ra : GC w base rt 1 Ab m cb (ps.map sv)) (hab : ∀ a, Ab = some a → a.block < B2) (rg : OC w rt 1 gg mg cg ((qs.take mg).map sv)) (hgg : B2 ≤ gg) (gr : GR w base e sz B2 ps qs css zss) (hq : qs[i]? = some (A1, n1, k1)) (hz : zss[i]? = some zs)
    (q3 : (∃ g, A1 = some ⟨g, 0, none⟩ ∧ g3 = g ∧ c3 = k1 ∧ w.grownBy w3 (some g)) ∨ (w.heap.size ≤ g3 ∧ w.grownBy w3 none)) (o3 : OC w3 e sz g3 (n1 + 1) c3 (zs ++ ys)) (hb : base ≤ w.heap.size) (hB : B2 ≤ w.heap.size) :
    (Bk w3 gk BS ∧ OC w3 rt 1 gg mg cg ((qs.take mg).map sv)) ∧
    Bk (w3.setCell ⟨gg, i, none⟩ (.slice (some ⟨g3, 0, none⟩) (n1 + 1) c3)) gk BS ∧
    GC (w3.setCell ⟨gg, i, none⟩ (.slice (some ⟨g3, 0, none⟩) (n1 + 1) c3)) base rt 1 Ab m cb (ps.map sv) ∧
    OC (w3.setCell ⟨gg, i, none⟩ (.slice (some ⟨g3, 0, none⟩) (n1 + 1) c3)) rt 1 gg mg cg (((qs.set i (some ⟨g3, 0, none⟩, n1 + 1, c3)).take mg).map sv) ∧
    GR (w3.setCell ⟨gg, i, none⟩ (.slice (some ⟨g3, 0, none⟩) (n1 + 1) c3)) base e sz B2 ps (qs.set i (some ⟨g3, 0, none⟩, n1 + 1, c3)) css (zss.set i (zs ++ ys)) ∧
    Out (GrowD ps B2) w (w3.setCell ⟨gg, i, none⟩ (.slice (some ⟨g3, 0, none⟩) (n1 + 1) c3)) := by
  obtain ⟨p, q', cs, zs', h1, h2, h3, h4, f⟩ := gr.zat i (by rw [← gr.lq]; exact (List.getElem?_eq_some_iff.1 hq).1)
  rw [hq] at h2; cases h2
  rw [hz] at h4; cases h4
  have own : GC w base e sz A1 n1 k1 zs := f.own
  have bk3 : Bk w3 gk BS := OC.past bk own nk1 q3
  have rg3 := rg.past own (Ne.symm ne) q3
  have ra3 := ra.past own (Ne.symm ne) q3
  have gr3 := gr.grow hq hz q3 o3 hb hB
  have gx := gset w3 gg i (.slice (some ⟨g3, 0, none⟩) (n1 + 1) c3)
  have ou3 : Out (GrowD ps B2) w w3 := by
    rcases q3 with ⟨g, rfl, -, -, k⟩ | ⟨-, k⟩
    · refine (Out.refl _ w).grow k fun g' hg' => Or.inl ?_
      cases hg'
      rcases gr.new i p _ h1 hq _ rfl with z | z
      · exact Or.inr z
      · exact Or.inl ⟨p, List.mem_of_getElem? h1, _, z, rfl⟩
    · exact (Out.refl _ w).grow k fun g' hg' => by cases hg'
  refine ⟨⟨bk3, rg3⟩, Bk.same bk3 (Sm.setCell _ _ _ (by rintro rfl; exact nk2 (OC.tyy bk3 rg3))), ?_, ?_, gr3.apart gx rg3 ne, ou3.grow gx (fun g hg => by cases hg; exact Or.inl (Or.inr hgg))⟩
  · exact GC.same ra3 fun ad ea => Sm.setCell _ _ _ (by have := hab ad ea; simp only; omega)
  · have := rg3.set i (sv (some ⟨g3, 0, none⟩, n1 + 1, c3))
    rw [take_set_row] at this
    exact this
/-- A list more in the row of those that are grown. -/
theorem row_step {w w5 : World} {gk base e sz rt B2 i cg g5 c5 m cb F : Nat} {Ab Ag : Option Addr} {BS : List Value} {ps qs : List Slot} {css zss : List (List Value)} {P : Slot} (ne : e ≠ rt) (nk1 : 39 ≠ e) (nk2 : 39 ≠ rt)
    (bk : Bk w gk BS) (ra : GC w base rt 1 Ab m cb (ps.map sv)) (hab : ∀ a, Ab = some a → a.block < B2) (rg : GC w B2 rt 1 Ag i cg ((qs.take i).map sv)) (gr : GR w base e sz B2 ps qs css zss) (hq : qs[i]? = some P)
    (k5 : w.grownBy w5 (Ag.map (·.block))) (o5 : OC w5 rt 1 g5 (i + 1) c5 ((qs.take i).map sv ++ [sv P])) (_q5 : B2 ≤ g5) :
    (Bk w5 gk BS ∧ GC w5 base rt 1 Ab m cb (ps.map sv)) ∧
    Bk (w5.setCell ⟨gk, F, none⟩ (.slice (some ⟨g5, 0, none⟩) (i + 1) c5)) gk (BS.set F (.slice (some ⟨g5, 0, none⟩) (i + 1) c5)) ∧
    GC (w5.setCell ⟨gk, F, none⟩ (.slice (some ⟨g5, 0, none⟩) (i + 1) c5)) base rt 1 Ab m cb (ps.map sv) ∧
    OC (w5.setCell ⟨gk, F, none⟩ (.slice (some ⟨g5, 0, none⟩) (i + 1) c5)) rt 1 g5 (i + 1) c5 ((qs.take (i + 1)).map sv) ∧
    GR (w5.setCell ⟨gk, F, none⟩ (.slice (some ⟨g5, 0, none⟩) (i + 1) c5)) base e sz B2 ps qs css zss ∧
    Out (fun g => g = gk ∨ GrowD ps B2 g) w (w5.setCell ⟨gk, F, none⟩ (.slice (some ⟨g5, 0, none⟩) (i + 1) c5)) := by
  have bk5 : Bk w5 gk BS := OC.apart bk rg k5 nk2
  have gx := gset w5 gk F (.slice (some ⟨g5, 0, none⟩) (i + 1) c5)
  have ra5 : GC w5 base rt 1 Ab m cb (ps.map sv) := by
    refine GC.same ra fun ad ea => Sm.of_grown k5 (ra.lt ad ea).1 ?_
    have h1 := hab ad ea
    cases Ag with
    | none => simp
    | some a =>
      have h2 := (rg.lt a rfl).2
      simp only [Option.map_some, ne_eq, Option.some.injEq]
      omega
  have gr5 : GR w5 base e sz B2 ps qs css zss := by
    rcases rg.oc with ⟨rfl, _⟩ | ⟨g, rfl, _, og⟩
    · exact gr.keep fun j p q h1 h2 a ha => Sm.of_grown k5 (gr.lt j p q h1 h2 a ha).1 (by simp)
    · exact gr.apart k5 og ne
  have et : (qs.take i).map sv ++ [sv P] = (qs.take (i + 1)).map sv := by rw [List.take_add_one, hq]; simp
  rw [et] at o5
  have ou5 : Out (fun g => g = gk ∨ GrowD ps B2 g) w w5 := (Out.refl _ w).grow k5 fun g hg => by
    cases Ag with
    | none => cases hg
    | some a =>
      have h2 := (rg.lt a rfl).2
      simp only [Option.map_some, Option.some.injEq] at hg
      exact Or.inl (Or.inr (Or.inr (by omega)))
  refine ⟨⟨bk5, ra5⟩, OC.set bk5 F _, ?_, o5.same (Sm.setCell _ _ _ (by rintro rfl; exact nk2 (OC.tyy bk5 o5))), gr5.apart gx bk5 (Ne.symm nk1), ou5.grow gx (fun g hg => by cases hg; exact Or.inl (Or.inl rfl))⟩
  rcases ra5.oc with ⟨rfl, rfl, rfl, e0⟩ | ⟨g, rfl, hb, oa⟩
  · rw [e0]; exact GC.nil _ _ _ _
  · exact GC.of (oa.same (Sm.setCell _ _ _ (by rintro rfl; exact nk2 (OC.tyy bk5 oa)))) hb
end Go.Proofs.YtmeakhiiebeneaaGreatDoor
