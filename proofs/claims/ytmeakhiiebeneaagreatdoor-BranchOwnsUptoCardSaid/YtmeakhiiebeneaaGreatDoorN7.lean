/- coppicekept.Book.byteListsUntouched. -/
import Derived.Test.YtmeakhiiebeneaaGreatDoorBl
import Derived.Test.YtmeakhiiebeneaaGreatDoorN5
import Derived.Test.YtmeakhiiebeneaaGreatDoorBi
namespace Go.Proofs.YtmeakhiiebeneaaGreatDoor
open Go.RowKit

theorem LS.rl {w : World} {base m c : Nat} {A : Option Addr} {ps : List Slot} {pss : List (List Slot)} {xsss : List (List (List UInt8))} (h : LS w base 40 1 25 A m c ps (pss.map (List.map sv))) (he : EvL w base pss xsss) (i : Nat) (hi : i < m) : ∃ (ad : Addr) (p : Slot) (vs : List Value) (zs : List (List UInt8)), A = some ad ∧ xsss[i]? = some zs ∧ w.cell? (ad.add i) = some (.slice p.1 p.2.1 p.2.2) ∧ RM w p.1 p.2.1 p.2.2 vs zs := by
  obtain ⟨ad, p, cs, e, hp, hc, cell, rc⟩ := h.read.at_ i hi
  rw [List.getElem?_map] at hc
  rcases hz : pss[i]? with _ | qs
  · rw [hz] at hc; cases hc
  · rw [hz] at hc
    cases hc
    have hx : xsss[i]? = some (xsss[i]'(by rw [← he.1]; exact (List.getElem?_eq_some_iff.1 hz).1)) := List.getElem?_eq_getElem _
    generalize xsss[i]'(by rw [← he.1]; exact (List.getElem?_eq_some_iff.1 hz).1) = zs at hx
    obtain ⟨hl, hev⟩ := he.2 i qs zs hz hx
    have hq : qs.length = p.2.1 := by have := rc.len; simpa using this
    refine ⟨ad, p, _, zs, e, hx, cell, rc, by rw [← hl, hq], fun j x hj => ?_⟩
    have hjl : j < qs.length := by rw [hl]; exact (List.getElem?_eq_some_iff.1 hj).1
    have hjp : qs[j]? = some qs[j] := List.getElem?_eq_getElem hjl
    exact ⟨qs[j].1, qs[j].2.1, qs[j].2.2, by rw [List.getElem?_map, hjp]; rfl, (hev j _ x hjp hj).read⟩
set_option maxRecDepth 100000 in
set_option maxHeartbeats 4000000 in
theorem byteListsUntouched_calls (gk base m : Nat) (t u : Row) (pss qss : List (List Slot)) (xsss : List (List (List UInt8))) (w : World) (h2 : w.cell? ⟨gk, 11, none⟩ = some (t.v m)) (h3 : w.cell? ⟨gk, 12, none⟩ = some (u.v m)) (h : Kl w base m t u pss qss xsss) (hm : m ≤ 1000000) :
    Calls Tryz.prog 119 #[.pointer (some ⟨gk, 0, none⟩)] w fun e w' => e = .returned (.bool true) ∧ Below w.heap.size w w' := by
  obtain ⟨At, ct, pt⟩ := t
  obtain ⟨Au, cu, pu⟩ := u
  simp only [Row.v] at *
  have H := hideIt h
  clear h
  go_enter Tryz.func119, Tryz.ntmps119
  go_wp2
  go_loopw [3] (fun ii wr => ∃ i : Nat, i ≤ m ∧ ii = .int .i64 (i : Int) ∧ Below w.heap.size w wr)
    (fun ii _ => m - (intOf ii).toNat)
  case atStart => exact ⟨0, by omega, rfl, Below.refl _ _⟩
  case round =>
    obtain ⟨i, hi, rfl, b⟩ := hrel
    have c2 := (b.cell (World.block_lt_of_cell? w _ h2)).trans h2
    have c3 := (b.cell (World.block_lt_of_cell? w _ h3)).trans h3
    by_cases hlt : i < m
    · have K := hideIt (H.out.below b)
      obtain ⟨ad, ⟨A1, n1, d1⟩, vs, zs, rfl, hz, x1, r1⟩ := LS.rl K.out.kp.ls K.out.e1 i hlt
      obtain ⟨ad', ⟨A2, n2, d2⟩, vs', zs', rfl, hz', y1, r2⟩ := LS.rl K.out.kp.lw K.out.e2 i hlt
      simp only at x1 y1 r1 r2
      obtain rfl : zs = zs' := Option.some.inj (hz.symm.trans hz')
      have i1 : (i : Int) < (m : Int) := by omega
      have bd : Below wr.heap.size wr wr.drew := drew1 wr
      have SI : ∀ W, RM W A1 n1 d1 vs zs → RM W A2 n2 d2 vs' zs → Calls Tryz.prog 32 #[.slice A1 n1 d1, .slice A2 n2 d2] W fun e w' => e = .returned (.bool true) ∧ Below W.heap.size W w' := fun W q1 q2 => (SameByteLists_calls _ _ _ _ _ _ _ _ _ _ W q1 q2 true (by simp)).mono fun _ _ ⟨e, j, q⟩ => ⟨e, by rw [q]; exact below_drewN (Below.refl _ _) j⟩
      have q1 := r1.below bd
      have q2 := r2.below bd
      have c2d : wr.drew.cell? ⟨gk, 11, none⟩ = some (.slice (some ad) m ct) := c2
      have c3d : wr.drew.cell? ⟨gk, 12, none⟩ = some (.slice (some ad') m cu) := c3
      have x1d : wr.drew.cell? (ad.add i) = some (.slice A1 n1 d1) := x1
      have y1d : wr.drew.cell? (ad'.add i) = some (.slice A2 n2 d2) := y1
      clear hz hz' r1 r2
      go_wp2
      go_region_held3 (fun w' => w'.cell? ⟨gk, 11, none⟩ = some (.slice (some ad) m ct) ∧ w'.cell? ⟨gk, 12, none⟩ = some (.slice (some ad') m cu) ∧ w'.cell? (ad.add i) = some (.slice A1 n1 d1) ∧ w'.cell? (ad'.add i) = some (.slice A2 n2 d2))
        (first | exact ⟨c2d, c3d, x1d, y1d⟩ | exact ⟨c2e, c3e, x1e, y1e⟩ | go_keep)
        (first
          | (go_at_call 32; (with_reducible refine (SI _ q1 q2).mono ?_); rintro en w2 ⟨rfl, xx⟩; have b2 := blw_step b (blw_step bd xx); have bb := blw_step bd xx; have c2e := (bb.cell (World.block_lt_of_cell? wr _ c2)).trans c2; have c3e := (bb.cell (World.block_lt_of_cell? wr _ c3)).trans c3; have x1e := (bb.cell (World.block_lt_of_cell? wr _ x1)).trans x1; have y1e := (bb.cell (World.block_lt_of_cell? wr _ y1)).trans y1))
      clear c2d c3d x1d y1d c2e c3e x1e y1e bb bd xx q1 q2 SI K
      go_wp2
      go_roundw
      case rel => exact ⟨i + 1, by omega, by go_num, b2⟩
      case measure => simp [intOf]; omega
    · obtain rfl : m = i := by omega
      go_wp2
      go_ret
      exact ⟨rfl, b⟩
end Go.Proofs.YtmeakhiiebeneaaGreatDoor
namespace Go.Proofs.YtmeakhiiebeneaaGreatDoor
open Go.RowKit

def KC.byteLists {B gk id0 : Nat} (base m : Nat) (t u : Row) (pss qss : List (List Slot)) (xsss : List (List (List UInt8))) (hB : B ≤ base) (hm : m ≤ 900000) (hid : id0 ≤ 3000000) : KC B gk base 3 id0 where
  m := m
  v0 := t.v m
  v1 := u.v m
  U := fun w => Kl w base m t u pss qss xsss
  P := fun ph F w => Tb B w ∧ base ≤ w.heap.size ∧ (∀ g, F g → base ≤ g ∧ g < w.heap.size) ∧ (∀ g, Blk t.A t.ps g → F g) ∧ ∃ css, LS w base 40 1 25 t.A m t.c t.ps css ∧ (∀ cs ∈ css, cs.length ≤ 900000) ∧ (∀ q : Nat, ph = q + 1 → MarkM w F (q : Int) id0 m css)
  G := fun n v F w => Tb B w ∧ (∀ g, F g → base ≤ g) ∧ ∃ (Ag : Option Addr) (mg cg B2 : Nat) (css : List (List Value)), v = .slice Ag mg cg ∧ base ≤ w.heap.size ∧ B2 ≤ w.heap.size ∧ GStM w base B2 m t.c t.A t.ps css 1 id0 900000 n mg cg Ag F ∧ (∀ cs ∈ css, cs.length ≤ 900000)
  ub := fun h b => Kl.below h b
  pf := fun {ph F E w w'} h ou d hE hBw => by
    obtain ⟨tb, hb, hf, hk, css, ls, l, hm⟩ := h
    exact ⟨tb.next (ou.below hBw hE), Nat.le_trans hb ou.size, fun g q => ⟨(hf g q).1, Nat.lt_of_lt_of_le (hf g q).2 ou.size⟩, hk, css, ls.outDj ou (fun g q => d g (hk g q)), l, fun q e => (hm q e).same fun g uu f => ou.sm uu.lt (d g f)⟩
  gf := fun {n v F E w w'} h ou d hE hBw => by
    obtain ⟨tb, hf, Ag, mg, cg, B2, css, e1, h1, h2, g, l⟩ := h
    exact ⟨tb.next (ou.below hBw hE), hf, Ag, mg, cg, B2, css, e1, Nat.le_trans h1 ou.size, Nat.le_trans h2 ou.size, g.out ou d, l⟩
  pl := fun {ph F w} h g q => by
    obtain ⟨tb, hb, hf, _⟩ := h
    exact hf g q
  gl := fun {n v F w} h g q => by
    obtain ⟨tb, hf, Ag, mg, cg, B2, css, e1, h1, h2, gs, l⟩ := h
    exact ⟨hf g q, gs.fl g q⟩
  start := fun {F w} h => by
    obtain ⟨tb, hb, hf, hk, css, ls, l, hm⟩ := h
    exact ⟨tb, fun g q => (hf g q).1, none, 0, 0, w.heap.size, css, rfl, hb, Nat.le_refl _, ⟨ls.row, fun a e => (ls.row.lt a e).1, fun g q => (hf g q).2, fun g q => hk g (Or.inl q), fun g q => hk g (Or.inr q), hm 1 rfl, Or.inl ⟨rfl, rfl, rfl, rfl, GR.start _ ls, l⟩⟩, l⟩
  un := fun w bs bk e0 e1 h => byteListsUntouched_calls gk base m t u pss qss xsss w (OC.cell bk 11 _ e0) (OC.cell bk 12 _ e1) h (by omega)
  wr := fun w bs ph q F hq bk hBw hg e1 e2 h => by
    obtain ⟨tb, hb, hf, hk, css, ls, l, hm'⟩ := h
    refine (byteListsWrite_calls B gk base m t.c id0 900000 (q : Int) t.A t.ps bs css w bk tb hBw hB e1 e2 ls l (by omega) hid (by omega) (by omega) (by decide)).mono ?_
    rintro en w' ⟨css', rfl, ls', mk', bk', ou⟩
    have ouF : Out F w w' := ou.mono fun g z => hk g (Or.inl z)
    refine ⟨rfl, bk', fun g => Blk t.A t.ps g ∨ (w.heap.size ≤ g ∧ g < w'.heap.size), ⟨tb.next (ouF.below hBw fun g z => Nat.le_trans hB (hf g z).1), Nat.le_trans hb ou.size, ?_, fun g z => Or.inl z, css', ls', fun cs hc => by have := ls.lens (K := 900000) ls' l cs hc; exact this, fun q' e => ?_⟩, ?_, ouF⟩
    · rintro g (z | z)
      · exact ⟨(hf g (hk g z)).1, Nat.lt_of_lt_of_le (hf g (hk g z)).2 ou.size⟩
      · exact ⟨Nat.le_trans hb z.1, z.2⟩
    · cases e
      exact mk'.imp fun g uu z => Or.inr ⟨z, uu.lt⟩
    · rintro g (z | z)
      · exact Or.inl (hk g z)
      · exact Or.inr z.1
  ho := fun w bs q F hq bk hBw e1 e2 e4 h => by
    obtain ⟨tb, hb, hf, hk, css, ls, l, hm'⟩ := h
    exact byteListsHold_calls B gk m t.c 0 0 id0 900000 900000 F (q : Int) t.A none t.ps [] css [] w tb hBw (OC.cell bk 1 _ e1) (OC.cell bk 11 _ e2) (OC.cell bk 13 _ e4) ls.read (hm' q rfl) l (RS.none _ _) (Or.inl rfl) (MarkM.nil _ _ _ _ _) (fun cs hc => by cases hc) (by omega) hid (by omega) (by omega) (by decide) (by decide)
  gr := fun w bs n v F hn bk hBw hg e1 e2 e4 h => by
    obtain ⟨tb, hf, Ag, mg, cg, B2, css, rfl, h1, h2, gs, l⟩ := h
    refine (byteListsGrow_t B gk base B2 m t.c id0 900000 n mg cg 1 t.A Ag t.ps bs css F w tb hBw hg (fun g q => Nat.le_trans hB (hf g q)) bk e1 e2 e4 gs (by omega) (by decide) hm hid h1 h2 (by decide) (by decide)).mono ?_
    rintro en w' ⟨Ag', cg', F', rfl, gs', bk', hs, ou⟩
    refine ⟨rfl, _, F', bk', ⟨tb.next (ou.below hBw fun g z => ?_), fun g q => ?_, Ag', m, cg', B2, css, rfl, Nat.le_trans h1 ou.size, Nat.le_trans h2 ou.size, gs', l⟩, hs, ou⟩
    · rcases z with rfl | z
      · exact hg
      · exact Nat.le_trans hB (hf g z)
    · rcases hs g q with z | z
      · exact hf g z
      · exact Nat.le_trans h1 z
  hg := fun w bs v F bk hBw e1 e2 e4 h => by
    obtain ⟨tb, hf, Ag, mg, cg, B2, css, rfl, h1, h2, gs, l⟩ := h
    rcases gs.now with ⟨z, _⟩ | ⟨_, rfl, qs, zss, rg, gr, hm', hl, _, _⟩
    · omega
    · exact byteListsHold_calls B gk mg t.c mg cg id0 900000 (900000 + 70) F 1 t.A Ag t.ps qs css zss w tb hBw (OC.cell bk 1 _ e1) (OC.cell bk 11 _ e2) (OC.cell bk 13 _ e4) (gr.old (GC.read gs.ra)) gs.mar l (gr.now (GC.read rg)) (Or.inr rfl) hm' hl (by omega) hid (by decide) (by decide) (by decide) (by decide)
end Go.Proofs.YtmeakhiiebeneaaGreatDoor
