/- coppicekept.Book.byteListsGrow, told by the blocks that may be written; one turn. -/
import Derived.Test.YtmeakhiiebeneaaGreatDoorJb
import Derived.Test.YtmeakhiiebeneaaGreatDoorJMw
namespace Go.Proofs.YtmeakhiiebeneaaGreatDoor
open Go.RowKit

theorem GR.inq {w : World} {base e sz B2 : Nat} {ps qs : List Slot} {css zss : List (List Value)} (h : GR w base e sz B2 ps qs css zss) {g : Nat} (q : InPs qs g) : ∃ n c cs, OC w e sz g n c cs := by
  obtain ⟨p, hp, a, ha, rfl⟩ := q
  obtain ⟨j, hj⟩ := List.getElem?_of_mem hp
  obtain ⟨p', q', cs, zs, h1, h2, h3, h4, f⟩ := h.zat j (by rw [← h.lq]; exact (List.getElem?_eq_some_iff.1 hj).1)
  rw [hj] at h2; cases h2
  rcases f.own.oc with ⟨e0, _⟩ | ⟨g0, e0, _, o⟩
  · rw [ha] at e0; cases e0
  · rw [ha] at e0; cases e0
    exact ⟨_, _, _, o⟩
theorem infoN : (Tryz.prog.info? 25).map (fun i => (i.zero, i.size, i.bytes)) = some (some (.slice none 0 0), 1, 24) := by kernel_rfl
section
variable {w : World} {ops : Array Oper} {rest : List Oper} {o : Oper} {a : Act} {K : Act → World → Prop} {Q : Exit → Act → World → Prop} {E : Prop}
theorem stepN_app (hgd : o.guard = none) (s x : Operand) (ho : o.op = .call { callee := .builtin .append, args := #[s, x], argTypes := #[25, 25] })
    (base : Nat) (A : Option Addr) (n c : Nat) (xs : List Value) (hs : a.eval s = .slice A n c) (hown : GC w base 40 1 A n c xs)
    (ad : Addr) (y : Value) (hx : a.eval x = .slice (some ad) 1 1) (hr : RC w 1 (some ad) 1 1 [y]) (h1 : y.oneCell' = true) (hb : n ≤ 100000000)
    (h : ∀ g' c' w', ((∃ g, A = some ⟨g, 0, none⟩ ∧ g' = g ∧ c' = c ∧ w.grownBy w' (some g)) ∨ (w.heap.size ≤ g' ∧ w.grownBy w' none)) → OC w' 40 1 g' (n + 1) c' (xs ++ [y]) → K (a.put o.dst (.slice (some ⟨g', 0, none⟩) (n + 1) c')) w') :
    if Region.wanted o (yielded ops a.tmps) = true then Oper.wp Tryz.prog o a w K Q else E := by
  obtain ⟨i0, hi, hz0, hz1, hz2⟩ := info_parts info_bs
  exact step_of hgd (opX_app s x 25 ho base 40 i0 (.slice none 0 0) 1 24 Tryz.underlying25 hi hz0 hz1 hz2 rfl (by decide) A n c xs hs hown ad 1 1 [y] hx hr (by simpa using h1) (by decide) (by omega) (by rw [maxLen_is]; omega) h)
theorem opNx_app (s x : Operand) (ho : o.op = .call { callee := .builtin .append, args := #[s, x], argTypes := #[28, 28] })
    (base : Nat) (A : Option Addr) (n c : Nat) (l : List Value) (hs : a.eval s = .slice A n c) (hown : GC w base 25 1 A n c l)
    (ad : Addr) (p : Option Addr × Nat × Nat) (hx : a.eval x = .slice (some ad) 1 1) (hr : RC w 1 (some ad) 1 1 [sv p]) (hb : n + 1 ≤ 1000000) (hbase : base ≤ w.heap.size)
    (h : ∀ g' c' w', base ≤ g' → ((∃ b, A = some b ∧ g' = b.block) ∨ w.heap.size ≤ g') → OC w' 25 1 g' (n + 1) c' (l ++ [sv p]) → w.grownBy w' (A.map (·.block)) → K (a.put o.dst (.slice (some ⟨g', 0, none⟩) (n + 1) c')) w') :
    o.wp Tryz.prog a w K Q := by
  obtain ⟨i0, hi, hz0, hz1, hz2⟩ := info_parts infoN
  refine opX_app s x 28 ho base 25 i0 (.slice none 0 0) 1 24 Tryz.underlying28 hi hz0 hz1 hz2 rfl (by decide) A n c l hs hown ad 1 1 [sv p] hx hr (sv_one [p]) (by decide) (by omega) (by rw [maxLen_is]; omega) fun g' c' w' q o' => ?_
  rcases q with ⟨g, rfl, rfl, rfl, k⟩ | ⟨hg, k⟩
  · rcases hown.oc with ⟨e0, _⟩ | ⟨g0, e0, hb0, _⟩
    · cases e0
    · cases e0
      exact h _ _ w' hb0 (Or.inl ⟨_, rfl, rfl⟩) o' k
  · exact h _ _ w' (Nat.le_trans hbase hg) (Or.inr hg) o' (grown_any k)
theorem wpNx_app (hgd : o.guard = none) (s x : Operand) (ho : o.op = .call { callee := .builtin .append, args := #[s, x], argTypes := #[28, 28] })
    (base : Nat) (A : Option Addr) (n c : Nat) (l : List Value) (hs : a.eval s = .slice A n c) (hown : GC w base 25 1 A n c l)
    (ad : Addr) (p : Option Addr × Nat × Nat) (hx : a.eval x = .slice (some ad) 1 1) (hr : RC w 1 (some ad) 1 1 [sv p]) (hb : n + 1 ≤ 1000000) (hbase : base ≤ w.heap.size)
    (h : ∀ g' c' w', base ≤ g' → ((∃ b, A = some b ∧ g' = b.block) ∨ w.heap.size ≤ g') → OC w' 25 1 g' (n + 1) c' (l ++ [sv p]) → w.grownBy w' (A.map (·.block)) → wpList Tryz.prog ops Q rest (a.put o.dst (.slice (some ⟨g', 0, none⟩) (n + 1) c')) w') :
    wpList Tryz.prog ops Q (o :: rest) a w :=
  wpList_plain hgd fun _ hK => opNx_app s x ho base A n c l hs hown ad p hx hr hb hbase fun g' c' w' h1 h2 h3 h4 => hK _ _ (h g' c' w' h1 h2 h3 h4)
theorem stepNx_app (hgd : o.guard = none) (s x : Operand) (ho : o.op = .call { callee := .builtin .append, args := #[s, x], argTypes := #[28, 28] })
    (base : Nat) (A : Option Addr) (n c : Nat) (l : List Value) (hs : a.eval s = .slice A n c) (hown : GC w base 25 1 A n c l)
    (ad : Addr) (p : Option Addr × Nat × Nat) (hx : a.eval x = .slice (some ad) 1 1) (hr : RC w 1 (some ad) 1 1 [sv p]) (hb : n + 1 ≤ 1000000) (hbase : base ≤ w.heap.size)
    (h : ∀ g' c' w', base ≤ g' → ((∃ b, A = some b ∧ g' = b.block) ∨ w.heap.size ≤ g') → OC w' 25 1 g' (n + 1) c' (l ++ [sv p]) → w.grownBy w' (A.map (·.block)) → K (a.put o.dst (.slice (some ⟨g', 0, none⟩) (n + 1) c')) w') :
    if Region.wanted o (yielded ops a.tmps) = true then Oper.wp Tryz.prog o a w K Q else E :=
  step_of hgd (opNx_app s x ho base A n c l hs hown ad p hx hr hb hbase h)
end
theorem svN_cell (w : World) (p : Option Addr × Nat × Nat) : RC (w.alloc (.cells #[.slice p.1 p.2.1 p.2.2] 25)) 1 (some ⟨w.heap.size, 0, none⟩) 1 1 [sv p] :=
  OC.read (e := 25) (OC.mk rfl _ (heap_alloc_new w _) (Nat.le_refl _) (by rw [maxLen_is]; omega) rfl rfl)
def GrowOutM (F : Nat → Prop) (gk base B2 gg m cb cg id0 K : Nat) (p : Int) (Ab : Option Addr) (ps : List Slot) (bs : List Value) (css : List (List Value)) (w : World) (e : Ending) (w' : World) : Prop :=
  ∃ (qs : List Slot) (zss' : List (List Value)), e = .returned (.int .i64 ((id0 + m : Nat) : Int)) ∧ Bk w' gk bs ∧ GC w' base 25 1 Ab m cb (ps.map sv) ∧ OC w' 25 1 gg m cg ((qs.take m).map sv) ∧ GR w' base 40 1 B2 ps qs css zss' ∧ Hid (MarkM w' (fun g => F g ∨ w.heap.size ≤ g) p id0 m zss') ∧ (∀ g, U8 w g → Sm w w' g) ∧ Hid (∀ zs ∈ zss', zs.length ≤ K + 1) ∧ Cov F w.heap.size qs ∧ Out F w w'
theorem GR.nM_ {w : World} {base e sz B2 : Nat} {ps qs : List Slot} {css zss : List (List Value)} (h : GR w base e sz B2 ps qs css zss) {m : Nat} (hm : ps.length = m) : qs.length = m ∧ zss.length = m := ⟨by rw [h.lq, hm], by rw [h.lz, hm]⟩

set_option maxRecDepth 100000 in
set_option maxHeartbeats 8000000 in
theorem byteListsGrow_moreF (F : Nat → Prop) (gk base B2 gg m cb cg id0 K : Nat) (p t : Int) (Ab : Option Addr) (ps : List Slot) (bs : List Value) (qs0 : List Slot) (css zss : List (List Value)) (w : World) (ht : (t == 0) = false) (hk : Bk w gk bs) (e1 : bs[1]? = some (.int .i64 p)) (e2 : bs[11]? = some (.slice Ab m cb)) (e4 : bs[13]? = some (.slice (some ⟨gg, 0, none⟩) m cg))
    (ra : GC w base 25 1 Ab m cb (ps.map sv)) (hab : ∀ a, Ab = some a → a.block < B2) (rg : OC w 25 1 gg m cg ((qs0.take m).map sv)) (hgg : B2 ≤ gg) (gr : GR w base 40 1 B2 ps qs0 css zss) (B : Nat) (tb : Tb B w) (tB : B ≤ w.heap.size) (tg : B ≤ gk) (tF : ∀ g, F g → B ≤ g) (hm : MarkM w F p id0 m zss) (hK : ∀ zs ∈ zss, zs.length ≤ K) (K1 : K ≤ 2000000) (m1 : m ≤ 1000000) (h0 : id0 ≤ 3000000) (hb : base ≤ w.heap.size) (hB : B2 ≤ w.heap.size) (p0 : 0 ≤ p) (p1 : p ≤ 1) (hFq : ∀ g, InPs qs0 g → F g) (hFg : F gg) :
    Calls Tryz.prog 158 #[.pointer (some ⟨gk, 0, none⟩), .int .i64 (id0 : Int), .int .i64 t] w (GrowOutM F gk base B2 gg m cb cg id0 K p Ab ps bs css w) := by
  have HPS : Hid (ps.length = m) := hideIt (by have := ra.1; simpa using this)
  have HAB := hideIt hab
  have HGG := hideIt hgg
  have E1 := hideIt e1
  have E2 := hideIt e2
  have E4 := hideIt e4
  have HM0 : Hid (MarkM w (fun g => F g ∨ w.heap.size ≤ g) p id0 m zss) := hideIt (hm.imp fun g _ q => Or.inl q)
  have HTB := hideIt tb
  have HTG := hideIt (show B ≤ w.heap.size ∧ B ≤ gk ∧ ∀ g, F g → B ≤ g from ⟨tB, tg, tF⟩)
  clear tb tB tg tF
  have HL0 := hideIt (LenB.start hK)
  have HB1 := hideIt hb
  have HB2 := hideIt hB
  have HC0 : Hid (Cov F w.heap.size qs0) := hideIt fun g q => Or.inl (hFq g q)
  have HFG := hideIt hFg
  clear hFq hFg hab hgg e1 e2 e4 hm hK hb hB
  go_enter Tryz.func158, Tryz.ntmps158
  go_wp2
  go_loopw [1, 7] (fun dd ii wr => ∃ (i id : Nat) (qs : List Slot) (zss' : List (List Value)), i ≤ m ∧ Hid (id = id0 + i) ∧ dd = .int .i64 (id : Int) ∧ ii = .int .i64 (i : Int) ∧ Bk wr gk bs ∧ GC wr base 25 1 Ab m cb (ps.map sv) ∧ OC wr 25 1 gg m cg ((qs.take m).map sv) ∧ GR wr base 40 1 B2 ps qs css zss' ∧ Hid (MarkM wr (fun g => F g ∨ w.heap.size ≤ g) p id0 m zss') ∧ Hid (∀ g, U8 w g → Sm w wr g) ∧ Hid (LenB K i zss') ∧ Hid (Cov F w.heap.size qs) ∧ Out F w wr)
    (fun _ ii _ => m - (intOf ii).toNat)
  case atStart => exact ⟨0, id0, qs0, zss, by omega, hideIt rfl, rfl, rfl, hk, ra, rg, gr, HM0, hideIt (fun g _ => Sm.refl _ _), HL0, HC0, Out.refl _ _⟩
  case round =>
    clear hk ra rg gr HM0 HL0 HC0
    obtain ⟨i, id, qs, zss', hi, HI, rfl, rfl, bk, ra, rg, gr, HM, HU, HLN, HC, ou⟩ := hrel
    have c2 := OC.cell bk 11 _ E2.out
    by_cases hlt : i < m
    · have i1 : (i : Int) < (m : Int) := by omega
      have idl : id ≤ 4000000 := by rw [HI.out]; omega
      have HI2 : Hid (id + 1 = id0 + (i + 1)) := hideIt (by rw [HI.out]; omega)
      go_upto_region 7 with fail
      obtain ⟨⟨A1, n1, k1⟩, hq⟩ : ∃ q, qs[i]? = some q := ⟨_, List.getElem?_eq_getElem (by rw [(gr.nM_ HPS.out).1]; exact hlt)⟩
      obtain ⟨zs, hz⟩ : ∃ zs, zss'[i]? = some zs := ⟨_, List.getElem?_eq_getElem (by rw [(gr.nM_ HPS.out).2]; exact hlt)⟩
      have own : GC wr base 40 1 A1 n1 k1 zs := by
        obtain ⟨p', q', cs', zs', g1, g2, g3, g4, f⟩ := gr.zat i (by rw [HPS.out]; exact hlt)
        rw [hq] at g2; cases g2
        rw [hz] at g4; cases g4
        exact f.own
      have zl : zs.length = n1 := by have := own.len; omega
      have n1l : n1 ≤ K := by rw [← zl]; exact (HLN.out i zs hz).2 (Nat.le_refl _)
      have cr := OC.cell rg i (.slice A1 n1 k1) (by rw [List.getElem?_map, List.getElem?_take, if_pos hlt, hq]; rfl)
      have cp := OC.cell bk 1 _ E1.out
      have c4 := OC.cell bk 13 _ E4.out
      obtain ⟨I, hI⟩ : ∃ I, id + 1 = I := ⟨_, rfl⟩
      have TBr : Tb B wr := HTB.out.next (ou.below HTG.out.1 (fun g q => HTG.out.2.2 g q))
      have MK := byteListsMark_calls B gk p ((id : Int) + 1) I n1 wr cp TBr (by omega) p0 p1 (by omega) (by omega)
      have HI1 := hideIt hI
      have HZL := hideIt zl
      have HTL := hideIt hlt
      have HQ := hideIt hq
      have HZ := hideIt hz
      have ig : (i : Int) < (m : Int) := by have := hlt; omega
      clear hI TBr hq hz zl
      go_upto_region 8 with (go_at_call 196; (with_reducible refine MK.mono ?_); rintro en w7 ⟨v7, rfl, m7, x7⟩)
      obtain ⟨gv, cv, rfl, rv, uv, nv⟩ := m7
      have MV : Hid (MkB w7 (fun g => F g ∨ w.heap.size ≤ g) (.slice (some ⟨gv, 0, none⟩) (txt p I n1).length cv) (txt p I n1)) := hideIt ⟨gv, cv, rfl, rv, uv, Or.inr (Nat.le_trans ou.size nv)⟩
      have HM7 := hideIt (HM.out.below x7)
      have HU7 := hideIt (show ∀ g, U8 w g → Sm w w7 g from fun g u => ((HU.out g u).trans (Sm.refl _ _)).trans (Sm.of_below x7 ((u.same (HU.out g u)).lt)))
      replace bk := Bk.below bk x7
      replace ra := GC.below ra x7
      replace rg := OC.below rg x7
      replace gr := gr.below x7
      replace own := GC.below own x7
      replace ou := ou.step x7
      have c4 := OC.cell bk 13 _ E4.out
      have cr := OC.cell rg i (.slice A1 n1 k1) (by rw [List.getElem?_map, List.getElem?_take, if_pos hlt, HQ.out]; rfl)
      clear x7 rv uv
      have ba := below1 w7.drew (.cells #[.slice (some ⟨gv, 0, none⟩) (txt p I n1).length cv] 40)
      have bd := blw_step (drew1 w7) ba
      have bk1 := Bk.below bk bd
      have ra1 := GC.below ra bd
      have rg1 := OC.below rg bd
      have gr1 := gr.below bd
      have own1 := GC.below own bd
      have ou1 := ou.step bd
      have R1 := sv_cell w7.drew (some ⟨gv, 0, none⟩, (txt p I n1).length, cv)
      have zb1 := Nat.le_trans HB1.out ou1.size
      have zb2 := Nat.le_trans HB2.out ou1.size
      have HM8 := hideIt (HM7.out.below bd)
      have MV8 := hideIt (MV.out.same (w' := (w7.drew.alloc (.cells #[.slice (some ⟨gv, 0, none⟩) (txt p I n1).length cv] 40))) fun g u _ => Sm.of_below bd u.lt)
      have HU8 := hideIt (show ∀ g, U8 w g → Sm w _ g from fun g u => (HU7.out g u).trans (Sm.of_below bd (u.same (HU7.out g u)).lt))
      have HGR := hideIt gr1
      have HRG := hideIt rg1
      clear MK bk ra rg gr own ou bd ba
      have crd : w7.drew.cell? ⟨gg, i, none⟩ = some (.slice A1 n1 k1) := cr
      have c4d : w7.drew.cell? ⟨gk, 13, none⟩ = some (.slice (some ⟨gg, 0, none⟩) m cg) := c4
      have c41 := OC.cell bk1 13 _ E4.out
      have cr1 := OC.cell rg1 i (.slice A1 n1 k1) (by rw [List.getElem?_map, List.getElem?_take, if_pos hlt, HQ.out]; rfl)
      have c41a : (w7.alloc (.cells #[.slice (some ⟨gv, 0, none⟩) (txt p I n1).length cv] 40)).cell? ⟨gk, 13, none⟩ = some (.slice (some ⟨gg, 0, none⟩) m cg) := c41
      have cr1a : (w7.alloc (.cells #[.slice (some ⟨gv, 0, none⟩) (txt p I n1).length cv] 40)).cell? ⟨gg, i, none⟩ = some (.slice A1 n1 k1) := cr1
      go_region_law
        (first
          | (refine stepN_app rfl (.tmp 60) (.tmp 62) rfl base _ _ _ _ rfl own1 _ (.slice (some ⟨gv, 0, none⟩) (txt p I n1).length cv) rfl R1 rfl (by omega) ?_; intro g3 c3 w3 q3 o3; have st := grow_stepF (by decide) (by decide) (by decide) bk1 ra1 HAB.out rg1 HGG.out gr1 HQ.out HZ.out q3 o3 zb1 zb2; have c43 := OC.cell st.1.1 13 _ E4.out; have cr3 := OC.cell st.1.2 i (.slice A1 n1 k1) (by rw [List.getElem?_map, List.getElem?_take, if_pos hlt, HQ.out]; rfl); have fr3 := OC.free st.1.2 i; have c45 := OC.cell st.2.1 13 _ E4.out))
      all_goals
        obtain ⟨-, bk4, ra4, rg4, gr4, ou4⟩ := st
        have SMS := fun g (u : U8 _ g) => ou4.sm (U8.lt u) (by
          rintro (q | rfl)
          · obtain ⟨_, _, _, o⟩ := GR.inq HGR.out q
            exact U8.ne u o (by decide) rfl
          · exact U8.ne u HRG.out (by decide) rfl)
        have HMK := hideIt (((HM8.out.same fun g u _ => SMS g u).grow HTL.out HZ.out HZL.out (by rw [← HI.out, HI1.out]; exact MV8.out.same fun g u _ => SMS g u)))
        have HU2 := hideIt (show ∀ g, U8 w g → Sm w _ g from fun g u => (HU8.out g u).trans (SMS g (u.same (HU8.out g u))))
        have HLN2 := hideIt (HLN.out.step (y := .slice (some ⟨gv, 0, none⟩) (txt p I n1).length cv) HZ.out)
        have HC2 : Hid (Cov F w.heap.size (qs.set i (some ⟨g3, 0, none⟩, n1 + 1, c3))) := hideIt (HC.out.set fun g hg => by
          obtain ⟨a, ea, eg⟩ := hg
          cases ea
          rcases q3 with ⟨g', e', q', _, _⟩ | ⟨q', _⟩
          · exact HC.out g ⟨_, List.mem_of_getElem? HQ.out, _, e', by rw [← eg]; exact q'.symm⟩
          · exact Or.inr (by have e3 : g3 = g := eg; exact e3 ▸ Nat.le_trans ou1.size q'))
        have ou5 := ou1.trans ou4 (fun g q => by
          rcases q with q | rfl
          · exact HC.out g q
          · exact Or.inl HFG.out)
        go_wp2
        go_roundw
        case rel => exact ⟨i + 1, id + 1, _, _, by omega, HI2, by go_num, by go_num, bk4, ra4, rg4, gr4, HMK, HU2, HLN2, HC2, ou5⟩
        case measure => simp [intOf]; omega
    · obtain rfl : m = i := by omega
      have E : Hid (Ending.returned (.int .i64 (id : Int)) = .returned (.int .i64 ((id0 + m : Nat) : Int))) := hideIt (by rw [HI.out])
      go_wp2
      go_ret
      exact ⟨qs, zss', E.out, bk, ra, rg, gr, HM, HU.out, hideIt HLN.out.done, HC.out, ou⟩

def RowedM (F : Nat → Prop) (gk base B2 m cb i : Nat) (Ab Ag : Option Addr) (ps qs : List Slot) (bs : List Value) (css zss : List (List Value)) (w w0 wx : World) : Prop :=
  ∃ g5 c5, B2 ≤ g5 ∧ Bk wx gk (bs.set 13 (.slice (some ⟨g5, 0, none⟩) (i + 1) c5)) ∧ GC wx base 25 1 Ab m cb (ps.map sv) ∧ OC wx 25 1 g5 (i + 1) c5 ((qs.take (i + 1)).map sv) ∧ GR wx base 40 1 B2 ps qs css zss ∧ Out (fun g => g = gk ∨ F g) w wx ∧ Hid (∀ g, U8 w0 g → Sm w0 wx g) ∧ Hid ((∃ a, Ag = some a ∧ g5 = a.block) ∨ w.heap.size ≤ g5)
def GrowOut0M (F : Nat → Prop) (gk base B2 m cb id0 K : Nat) (p : Int) (Ab : Option Addr) (ps : List Slot) (bs : List Value) (css : List (List Value)) (w : World) (e : Ending) (w' : World) : Prop :=
  ∃ (qs : List Slot) (zss' : List (List Value)) (Ag : Option Addr) (cg : Nat), e = .returned (.int .i64 ((id0 + m : Nat) : Int)) ∧ Bk w' gk (bs.set 13 (.slice Ag m cg)) ∧ GC w' base 25 1 Ab m cb (ps.map sv) ∧ GC w' B2 25 1 Ag m cg ((qs.take m).map sv) ∧ GR w' base 40 1 B2 ps qs css zss' ∧ Hid (MarkM w' (fun g => F g ∨ w.heap.size ≤ g) p id0 m zss') ∧ (∀ g, U8 w g → Sm w w' g) ∧ Hid (∀ zs ∈ zss', zs.length ≤ K + 1) ∧ Cov F w.heap.size qs ∧ (∀ g, AtB Ag g → w.heap.size ≤ g) ∧ Out (fun g => g = gk ∨ F g) w w'
set_option maxRecDepth 100000 in
set_option maxHeartbeats 8000000 in
theorem byteListsGrow_firstF (F : Nat → Prop) (gk base B2 m cb id0 K : Nat) (p : Int) (Ab : Option Addr) (ps : List Slot) (bs : List Value) (css : List (List Value)) (w : World) (hk : Bk w gk bs) (e1 : bs[1]? = some (.int .i64 p)) (e2 : bs[11]? = some (.slice Ab m cb)) (e4 : bs[13]? = some (.slice none 0 0))
    (ra : GC w base 25 1 Ab m cb (ps.map sv)) (hab : ∀ a, Ab = some a → a.block < B2) (gr : GR w base 40 1 B2 ps ps css css) (B : Nat) (tb : Tb B w) (tB : B ≤ w.heap.size) (tg : B ≤ gk) (tF : ∀ g, F g → B ≤ g) (hm : MarkM w F p id0 m css) (hK : ∀ zs ∈ css, zs.length ≤ K) (K1 : K ≤ 2000000) (m1 : m ≤ 900000) (h0 : id0 ≤ 3000000) (hb : base ≤ w.heap.size) (hB : B2 ≤ w.heap.size) (p0 : 0 ≤ p) (p1 : p ≤ 1) (hFq : ∀ g, InPs ps g → F g) :
    Calls Tryz.prog 158 #[.pointer (some ⟨gk, 0, none⟩), .int .i64 (id0 : Int), .int .i64 0] w (GrowOut0M F gk base B2 m cb id0 K p Ab ps bs css w) := by
  have HPS : Hid (ps.length = m) := hideIt (by have := ra.1; simpa using this)
  have HAB := hideIt hab
  have E1 := hideIt e1
  have E2 := hideIt e2
  have hk0 : Bk w gk (bs.set 13 (.slice none 0 0)) := by rw [set_self e4]; exact hk
  have HLB : Hid (13 < bs.length) := hideIt (List.getElem?_eq_some_iff.1 e4).1
  have HM0 : Hid (MarkM w (fun g => F g ∨ w.heap.size ≤ g) p id0 m css) := hideIt (hm.imp fun g _ q => Or.inl q)
  have HTB := hideIt tb
  have HTG := hideIt (show B ≤ w.heap.size ∧ B ≤ gk ∧ ∀ g, F g → B ≤ g from ⟨tB, tg, tF⟩)
  clear tb tB tg tF
  have HL0 := hideIt (LenB.start hK)
  have HB1 := hideIt hb
  have HB2 := hideIt hB
  have HC0 : Hid (Cov F w.heap.size ps) := hideIt fun g q => Or.inl (hFq g q)
  clear hFq hab e1 e2 e4 hm hK hb hB hk
  go_enter Tryz.func158, Tryz.ntmps158
  go_wp2
  go_loopw [1, 7] (fun dd ii wr => ∃ (i id : Nat) (qs : List Slot) (zss' : List (List Value)) (Ag : Option Addr) (cg : Nat), i ≤ m ∧ Hid (id = id0 + i) ∧ dd = .int .i64 (id : Int) ∧ ii = .int .i64 (i : Int) ∧ Bk wr gk (bs.set 13 (.slice Ag i cg)) ∧ GC wr base 25 1 Ab m cb (ps.map sv) ∧ GC wr B2 25 1 Ag i cg ((qs.take i).map sv) ∧ GR wr base 40 1 B2 ps qs css zss' ∧ Hid (MarkM wr (fun g => F g ∨ w.heap.size ≤ g) p id0 m zss') ∧ Hid (∀ g, U8 w g → Sm w wr g) ∧ Hid (LenB K i zss') ∧ Hid (∀ j, i ≤ j → qs[j]? = ps[j]?) ∧ Hid (Cov F w.heap.size qs ∧ ∀ g, AtB Ag g → w.heap.size ≤ g) ∧ Out (fun g => g = gk ∨ F g) w wr)
    (fun _ ii _ => m - (intOf ii).toNat)
  case atStart => exact ⟨0, id0, ps, css, none, 0, by omega, hideIt rfl, rfl, rfl, hk0, ra, GC.nil _ _ _ _, gr, HM0, hideIt (fun g _ => Sm.refl _ _), HL0, hideIt (fun _ _ => rfl), hideIt ⟨HC0.out, fun g q => by obtain ⟨a, e, _⟩ := q; cases e⟩, Out.refl _ _⟩
  case round =>
    clear hk0 ra gr HM0 HL0 HC0
    obtain ⟨i, id, qs, zss', Ag, cg, hi, HI, rfl, rfl, bk0, ra0, rg0, gr0, HM, HU, HLN, HV, HC, ou0⟩ := hrel
    have c2 := OC.cell bk0 11 _ (by rw [List.getElem?_set, if_neg (by decide)]; exact E2.out)
    have c4 := OC.cell bk0 13 (.slice Ag i cg) (List.getElem?_set_self HLB.out)
    by_cases hlt : i < m
    · have i1 : (i : Int) < (m : Int) := by omega
      have idl : id ≤ 4000000 := by rw [HI.out]; omega
      have HI2 : Hid (id + 1 = id0 + (i + 1)) := hideIt (by rw [HI.out]; omega)
      obtain ⟨⟨B1, l1, d1⟩, hP⟩ : ∃ q, ps[i]? = some q := ⟨_, List.getElem?_eq_getElem (by rw [HPS.out]; exact hlt)⟩
      have hQ : qs[i]? = some (B1, l1, d1) := (HV.out i (Nat.le_refl _)).trans hP
      rcases ra0.oc with ⟨_, z, _⟩ | ⟨ga, rfl, _, oa⟩
      · omega
      have cra := OC.cell oa i (.slice B1 l1 d1) (by rw [List.getElem?_map, hP]; rfl)
      go_upto_region 6 with fail
      have HQ := hideIt hQ
      have HP := hideIt hP
      clear hQ hP
      go_cut [] from 22 to 37 (fun wx => RowedM F gk base B2 m cb i (some ⟨ga, 0, none⟩) Ag ps qs bs css zss' w wr wx)
      case first =>
        have ba := below1 wr.drew (.cells #[.slice B1 l1 d1] 25)
        have bd := blw_step (drew1 wr) ba
        have bk1 := Bk.below bk0 bd
        have ra1 := GC.below ra0 bd
        have rg1 := GC.below rg0 bd
        have gr1 := gr0.below bd
        have ou1 := ou0.step bd
        have R1 := svN_cell wr.drew (B1, l1, d1)
        have zb2 := Nat.le_trans HB2.out ou1.size
        have c21 := OC.cell bk1 11 (.slice (some ⟨ga, 0, none⟩) m cb) (by rw [List.getElem?_set, if_neg (by decide)]; exact E2.out)
        have c41 := OC.cell bk1 13 (.slice Ag i cg) (List.getElem?_set_self HLB.out)
        have cr1 := ra1.cell i (.slice B1 l1 d1) (by rw [List.getElem?_map, HP.out]; rfl)
        have c21a : (wr.alloc (.cells #[.slice B1 l1 d1] 25)).cell? ⟨gk, 11, none⟩ = some (.slice (some ⟨ga, 0, none⟩) m cb) := c21
        have c41a : (wr.alloc (.cells #[.slice B1 l1 d1] 25)).cell? ⟨gk, 13, none⟩ = some (.slice Ag i cg) := c41
        have cr1a : (wr.alloc (.cells #[.slice B1 l1 d1] 25)).cell? ⟨ga, i, none⟩ = some (.slice B1 l1 d1) := cr1
        have BD0 := hideIt bd
        have HBK0 := hideIt bk1
        have HRG0 := hideIt rg1
        clear bk0 ra0 rg0 gr0 ou0 oa ba bd
        go_region_law
          (first
            | (refine stepNx_app rfl (.tmp 26) (.tmp 34) rfl B2 _ _ _ _ rfl rg1 _ (B1, l1, d1) rfl R1 (by omega) zb2 ?_; intro g5 c5 w5 q5 Q5 o5 k5; have st6 := row_stepF (F := 13) (by decide) (by decide) (by decide) bk1 ra1 HAB.out rg1 gr1 HQ.out k5 o5 q5; have f5 := OC.free st6.1.1 13; have c45 := OC.cell st6.1.1 13 (.slice Ag i cg) (List.getElem?_set_self HLB.out); have c25 := OC.cell st6.1.1 11 (.slice (some ⟨ga, 0, none⟩) m cb) (by rw [List.getElem?_set, if_neg (by decide)]; exact E2.out); have cr5 := st6.1.2.cell i (.slice B1 l1 d1) (by rw [List.getElem?_map, HP.out]; rfl)))
        all_goals
          go_wp2
          go_meet
          have HBK1 := hideIt st6.2.2.2.2.2
          have SMC := hideIt (show ∀ g, U8 wr g → Sm wr _ g from fun g u => (Sm.of_below BD0.out u.lt).trans (HBK1.out.sm (U8.lt (u.same (Sm.of_below BD0.out u.lt))) (by
            rintro (rfl | ⟨a, ea, rfl⟩)
            · exact U8.ne (u.same (Sm.of_below BD0.out u.lt)) HBK0.out (by decide) rfl
            · rcases GC.oc HRG0.out with ⟨e0, _⟩ | ⟨g0, e0, _, o0⟩
              · rw [ea] at e0; cases e0
              · rw [ea] at e0; cases e0
                exact U8.ne (u.same (Sm.of_below BD0.out u.lt)) o0 (by decide) rfl)))
          obtain ⟨-, bk, ra, rg, gr, ou6⟩ := st6
          rw [List.set_set] at bk
          exact ⟨g5, c5, q5, bk, ra, rg, gr, ou1.trans ou6 (fun g q => by
            rcases q with q | q
            · exact Or.inl (Or.inl q)
            · exact Or.inr (HC.out.2 g q)), SMC, hideIt (by
            rcases Q5 with q | q
            · exact Or.inl q
            · exact Or.inr (Nat.le_trans ou1.size q))⟩
      case rest =>
        obtain ⟨g5, c5, q5, bk, ra, rg, gr, ou, HSM0, HR5⟩ := hcut
        have HSMC : Hid (∀ g, U8 wr g → (F g ∨ w.heap.size ≤ g) → Sm wr wc g) := hideIt fun g u _ => HSM0.out g u
        have HSMC0 := HSM0
        have HGG := hideIt q5
        clear bk0 ra0 rg0 gr0 ou0 oa c2 c4 cra q5
        have X1 : Hid ((bs.set 13 (.slice (some ⟨g5, 0, none⟩) (i + 1) c5))[1]? = some (.int .i64 p)) := hideIt (by rw [List.getElem?_set, if_neg (by decide)]; exact E1.out)
        have X4 : Hid ((bs.set 13 (.slice (some ⟨g5, 0, none⟩) (i + 1) c5))[13]? = some (.slice (some ⟨g5, 0, none⟩) (i + 1) c5)) := hideIt (List.getElem?_set_self HLB.out)
        have hii : i < i + 1 := Nat.lt_succ_self i
        have ig1 : (i : Int) < (i : Int) + 1 := by omega
        obtain ⟨⟨A1, n1, k1⟩, hq⟩ : ∃ q, qs[i]? = some q := ⟨_, List.getElem?_eq_getElem (by rw [(gr.nM_ HPS.out).1]; exact hlt)⟩
        obtain ⟨zs, hz⟩ : ∃ zs, zss'[i]? = some zs := ⟨_, List.getElem?_eq_getElem (by rw [(gr.nM_ HPS.out).2]; exact hlt)⟩
        have own : GC wc base 40 1 A1 n1 k1 zs := by
          obtain ⟨p', q', cs', zs', g1, g2, g3, g4, f⟩ := gr.zat i (by rw [HPS.out]; exact hlt)
          rw [hq] at g2; cases g2
          rw [hz] at g4; cases g4
          exact f.own
        have zl : zs.length = n1 := by have := own.len; omega
        have n1l : n1 ≤ K := by rw [← zl]; exact (HLN.out i zs hz).2 (Nat.le_refl _)
        have cr := OC.cell rg i (.slice A1 n1 k1) (by rw [List.getElem?_map, List.getElem?_take, if_pos hii, hq]; rfl)
        have cp := OC.cell bk 1 _ X1.out
        have c4 := OC.cell bk 13 _ X4.out
        obtain ⟨I, hI⟩ : ∃ I, id + 1 = I := ⟨_, rfl⟩
        have TBr : Tb B wc := HTB.out.next (ou.below HTG.out.1 (fun g q => q.elim (fun e => e ▸ HTG.out.2.1) (HTG.out.2.2 g)))
        have MK := byteListsMark_calls B gk p ((id : Int) + 1) I n1 wc cp TBr (by omega) p0 p1 (by omega) (by omega)
        have HI1 := hideIt hI
        have HZL := hideIt zl
        have HTL := hideIt hlt
        have HQ := hideIt hq
        have HZ := hideIt hz
        have ig : (i : Int) < ((i : Int) + 1) := by have := hii; omega
        clear hI TBr hq hz zl
        go_upto_region 8 with (go_at_call 196; (with_reducible refine MK.mono ?_); rintro en w7 ⟨v7, rfl, m7, x7⟩)
        obtain ⟨gv, cv, rfl, rv, uv, nv⟩ := m7
        have MV : Hid (MkB w7 (fun g => F g ∨ w.heap.size ≤ g) (.slice (some ⟨gv, 0, none⟩) (txt p I n1).length cv) (txt p I n1)) := hideIt ⟨gv, cv, rfl, rv, uv, Or.inr (Nat.le_trans ou.size nv)⟩
        have HM7 := hideIt (((HM.out.same (w' := wc) fun g u q => HSMC.out g u q)).below x7)
        have HU7 := hideIt (show ∀ g, U8 w g → Sm w w7 g from fun g u => ((HU.out g u).trans (HSMC0.out g (u.same (HU.out g u)))).trans (Sm.of_below x7 (((u.same (HU.out g u)).same (HSMC0.out g (u.same (HU.out g u)))).lt)))
        replace bk := Bk.below bk x7
        replace ra := GC.below ra x7
        replace rg := OC.below rg x7
        replace gr := gr.below x7
        replace own := GC.below own x7
        replace ou := ou.step x7
        have c4 := OC.cell bk 13 _ X4.out
        have cr := OC.cell rg i (.slice A1 n1 k1) (by rw [List.getElem?_map, List.getElem?_take, if_pos hii, HQ.out]; rfl)
        clear x7 rv uv
        have ba := below1 w7.drew (.cells #[.slice (some ⟨gv, 0, none⟩) (txt p I n1).length cv] 40)
        have bd := blw_step (drew1 w7) ba
        have bk1 := Bk.below bk bd
        have ra1 := GC.below ra bd
        have rg1 := OC.below rg bd
        have gr1 := gr.below bd
        have own1 := GC.below own bd
        have ou1 := ou.step bd
        have R1 := sv_cell w7.drew (some ⟨gv, 0, none⟩, (txt p I n1).length, cv)
        have zb1 := Nat.le_trans HB1.out ou1.size
        have zb2 := Nat.le_trans HB2.out ou1.size
        have HM8 := hideIt (HM7.out.below bd)
        have MV8 := hideIt (MV.out.same (w' := (w7.drew.alloc (.cells #[.slice (some ⟨gv, 0, none⟩) (txt p I n1).length cv] 40))) fun g u _ => Sm.of_below bd u.lt)
        have HU8 := hideIt (show ∀ g, U8 w g → Sm w _ g from fun g u => (HU7.out g u).trans (Sm.of_below bd (u.same (HU7.out g u)).lt))
        have HGR := hideIt gr1
        have HRG := hideIt rg1
        clear MK bk ra rg gr own ou bd ba
        have crd : w7.drew.cell? ⟨g5, i, none⟩ = some (.slice A1 n1 k1) := cr
        have c4d : w7.drew.cell? ⟨gk, 13, none⟩ = some (.slice (some ⟨g5, 0, none⟩) (i + 1) c5) := c4
        have c41 := OC.cell bk1 13 _ X4.out
        have cr1 := OC.cell rg1 i (.slice A1 n1 k1) (by rw [List.getElem?_map, List.getElem?_take, if_pos hii, HQ.out]; rfl)
        have c41a : (w7.alloc (.cells #[.slice (some ⟨gv, 0, none⟩) (txt p I n1).length cv] 40)).cell? ⟨gk, 13, none⟩ = some (.slice (some ⟨g5, 0, none⟩) (i + 1) c5) := c41
        have cr1a : (w7.alloc (.cells #[.slice (some ⟨gv, 0, none⟩) (txt p I n1).length cv] 40)).cell? ⟨g5, i, none⟩ = some (.slice A1 n1 k1) := cr1
        go_region_law
          (first
            | (refine stepN_app rfl (.tmp 60) (.tmp 62) rfl base _ _ _ _ rfl own1 _ (.slice (some ⟨gv, 0, none⟩) (txt p I n1).length cv) rfl R1 rfl (by omega) ?_; intro g3 c3 w3 q3 o3; have st := grow_stepF (by decide) (by decide) (by decide) bk1 ra1 HAB.out rg1 HGG.out gr1 HQ.out HZ.out q3 o3 zb1 zb2; have c43 := OC.cell st.1.1 13 _ X4.out; have cr3 := OC.cell st.1.2 i (.slice A1 n1 k1) (by rw [List.getElem?_map, List.getElem?_take, if_pos hii, HQ.out]; rfl); have fr3 := OC.free st.1.2 i; have c45 := OC.cell st.2.1 13 _ X4.out))
        all_goals
          obtain ⟨-, bk4, ra4, rg4, gr4, ou4⟩ := st
          have SMS := fun g (u : U8 _ g) => ou4.sm (U8.lt u) (by
            rintro (q | rfl)
            · obtain ⟨_, _, _, o⟩ := GR.inq HGR.out q
              exact U8.ne u o (by decide) rfl
            · exact U8.ne u HRG.out (by decide) rfl)
          have HMK := hideIt (((HM8.out.same fun g u _ => SMS g u).grow HTL.out HZ.out HZL.out (by rw [← HI.out, HI1.out]; exact MV8.out.same fun g u _ => SMS g u)))
          have HU2 := hideIt (show ∀ g, U8 w g → Sm w _ g from fun g u => (HU8.out g u).trans (SMS g (u.same (HU8.out g u))))
          have HLN2 := hideIt (HLN.out.step (y := .slice (some ⟨gv, 0, none⟩) (txt p I n1).length cv) HZ.out)
          have HC2 : Hid (Cov F w.heap.size (qs.set i (some ⟨g3, 0, none⟩, n1 + 1, c3))) := hideIt (HC.out.1.set fun g hg => by
            obtain ⟨a, ea, eg⟩ := hg
            cases ea
            rcases q3 with ⟨g', e', q', _, _⟩ | ⟨q', _⟩
            · exact HC.out.1 g ⟨_, List.mem_of_getElem? HQ.out, _, e', by rw [← eg]; exact q'.symm⟩
            · exact Or.inr (by have e3 : g3 = g := eg; exact e3 ▸ Nat.le_trans ou1.size q'))
          have HN5 : Hid (w.heap.size ≤ g5) := hideIt (by
            rcases HR5.out with ⟨a, ea, eb⟩ | q
            · rw [eb]; exact HC.out.2 a.block ⟨a, ea, rfl⟩
            · exact q)
          have ou5 := ou1.trans ou4 (fun g q => by
            rcases q with q | rfl
            · rcases HC.out.1 g q with z | z
              · exact Or.inl (Or.inr z)
              · exact Or.inr z
            · exact Or.inr HN5.out)
          have HV2 : Hid (∀ j, i + 1 ≤ j → (qs.set i (some ⟨g3, 0, none⟩, n1 + 1, c3))[j]? = ps[j]?) := hideIt fun j hj => by
            rw [List.getElem?_set, if_neg (by omega)]; exact HV.out j (by omega)
          go_wp2
          go_roundw
          case rel => exact ⟨i + 1, id + 1, _, _, some ⟨g5, 0, none⟩, c5, by omega, HI2, by go_num, by go_num, bk4, ra4, GC.of rg4 HGG.out, gr4, HMK, HU2, HLN2, HV2, hideIt ⟨HC2.out, fun g q => by obtain ⟨a, e, q⟩ := q; cases e; exact q ▸ HN5.out⟩, ou5⟩
          case measure => simp [intOf]; omega
    · obtain rfl : m = i := by omega
      have E : Hid (Ending.returned (.int .i64 (id : Int)) = .returned (.int .i64 ((id0 + m : Nat) : Int))) := hideIt (by rw [HI.out])
      go_wp2
      go_ret
      exact ⟨qs, zss', Ag, cg, E.out, bk0, ra0, rg0, gr0, HM, HU.out, hideIt HLN.out.done, HC.out.1, HC.out.2, ou0⟩


/-- lists of lists of bytes behind t turns. -/
structure GStM (w : World) (base B2 m cb : Nat) (Ab : Option Addr) (ps : List Slot) (css : List (List Value)) (p : Int) (id0 K t mg cg : Nat) (Ag : Option Addr) (F : Nat → Prop) : Prop where
  ra : GC w base 25 1 Ab m cb (ps.map sv)
  ab : ∀ a, Ab = some a → a.block < B2
  fl : ∀ g, F g → g < w.heap.size
  fp : ∀ g, InPs ps g → F g
  fa : ∀ g, AtB Ab g → F g
  mar : MarkM w F p id0 m css
  now : (t = 0 ∧ mg = 0 ∧ cg = 0 ∧ Ag = none ∧ GR w base 40 1 B2 ps ps css css ∧ (∀ zs ∈ css, zs.length ≤ K)) ∨
    (0 < t ∧ mg = m ∧ ∃ qs zss, GC w B2 25 1 Ag m cg (qs.map sv) ∧ GR w base 40 1 B2 ps qs css zss ∧ MarkM w F p id0 m zss ∧ (∀ zs ∈ zss, zs.length ≤ K + t) ∧ (∀ g, InPs qs g → F g) ∧ (∀ g, AtB Ag g → F g))
theorem GStM.out {w w' : World} {base B2 m cb : Nat} {Ab : Option Addr} {ps : List Slot} {css : List (List Value)} {p : Int} {id0 K t mg cg : Nat} {Ag : Option Addr} {F D : Nat → Prop} (h : GStM w base B2 m cb Ab ps css p id0 K t mg cg Ag F) (ou : Out D w w') (hd : ∀ g, F g → ¬ D g) : GStM w' base B2 m cb Ab ps css p id0 K t mg cg Ag F := by
  refine ⟨h.ra.out ou fun g q => hd g (h.fa g q), h.ab, fun g q => Nat.lt_of_lt_of_le (h.fl g q) ou.size, h.fp, h.fa, h.mar.same fun g u f => ou.sm u.lt (hd g f), ?_⟩
  rcases h.now with ⟨h1, h2, h3, h4, h5, h6⟩ | ⟨h1, h2, qs, zss, h3, h4, h5, h6, h7, h8⟩
  · exact Or.inl ⟨h1, h2, h3, h4, h5.out ou (fun g q => hd g (h.fp g q)) (fun g q => hd g (h.fp g q)), h6⟩
  · exact Or.inr ⟨h1, h2, qs, zss, h3.out ou fun g q => hd g (h8 g q), h4.out ou (fun g q => hd g (h.fp g q)) (fun g q => hd g (h7 g q)), h5.same fun g u f => ou.sm u.lt (hd g f), h6, h7, h8⟩
def GrOutM' (gk base B2 m cb id0 K t : Nat) (Ab : Option Addr) (ps : List Slot) (css : List (List Value)) (p : Int) (bs : List Value) (F : Nat → Prop) (w : World) (en : Ending) (w' : World) : Prop :=
  ∃ (Ag : Option Addr) (cg : Nat) (F' : Nat → Prop), en = .returned (.int .i64 ((id0 + m : Nat) : Int)) ∧ GStM w' base B2 m cb Ab ps css p id0 K (t + 1) m cg Ag F' ∧ Bk w' gk (bs.set 13 (.slice Ag m cg)) ∧ (∀ g, F' g → F g ∨ w.heap.size ≤ g) ∧ Out (fun g => g = gk ∨ F g) w w'
theorem GrOutM'.mk1 {gk base B2 m cb id0 K t : Nat} {Ab : Option Addr} {ps : List Slot} {css : List (List Value)} {p : Int} {bs : List Value} {F : Nat → Prop} {w w' : World} {Ag : Option Addr} {cg : Nat} {qs : List Slot} {zss : List (List Value)}
    (ab : ∀ a, Ab = some a → a.block < B2) (fl : ∀ g, F g → g < w.heap.size) (fp : ∀ g, InPs ps g → F g) (fa : ∀ g, AtB Ab g → F g) (mk : MarkM w F p id0 m css) (bk : Bk w' gk (bs.set 13 (.slice Ag m cg))) (ra : GC w' base 25 1 Ab m cb (ps.map sv)) (rg : GC w' B2 25 1 Ag m cg ((qs.take m).map sv)) (gr : GR w' base 40 1 B2 ps qs css zss) (hm : MarkM w' (fun g => F g ∨ w.heap.size ≤ g) p id0 m zss) (hu : ∀ g, U8 w g → Sm w w' g) (hl : ∀ zs ∈ zss, zs.length ≤ K + (t + 1)) (hc : Cov F w.heap.size qs) (hag : ∀ g, AtB Ag g → F g ∨ w.heap.size ≤ g) (ou : Out (fun g => g = gk ∨ F g) w w') :
    GrOutM' gk base B2 m cb id0 K t Ab ps css p bs F w (.returned (.int .i64 ((id0 + m : Nat) : Int))) w' := by
  have hpm : ps.length = m := by have := ra.1; simpa using this
  have hq : qs.take m = qs := List.take_of_length_le (by rw [gr.lq, hpm]; exact Nat.le_refl _)
  rw [hq] at rg
  have lq : ∀ g, InPs qs g → g < w'.heap.size := fun g q => by obtain ⟨_, _, _, o⟩ := GR.inq gr q; exact o.lt
  have la : ∀ g, AtB Ag g → g < w'.heap.size := fun g q => by obtain ⟨a, ha, rfl⟩ := q; exact (rg.lt a ha).1
  refine ⟨Ag, cg, fun g => F g ∨ (w.heap.size ≤ g ∧ g < w'.heap.size), rfl, ⟨ra, ab, ?_, fun g q => Or.inl (fp g q), fun g q => Or.inl (fa g q), (mk.same fun g u _ => hu g u).imp fun g _ q => Or.inl q, Or.inr ⟨Nat.succ_pos t, rfl, qs, zss, rg, gr, hm.imp fun g u q => q.imp id fun z => ⟨z, u.lt⟩, hl, fun g q => (hc g q).imp id fun z => ⟨z, lq g q⟩, fun g q => (hag g q).imp id fun z => ⟨z, la g q⟩⟩⟩, bk, fun g q => q.imp id fun z => z.1, ou⟩
  rintro g (q | q)
  · exact Nat.lt_of_lt_of_le (fl g q) ou.size
  · exact q.2
set_option maxRecDepth 100000 in
set_option maxHeartbeats 1000000 in
theorem byteListsGrow_zeroF (gk cb : Nat) (z t : Int) (Ab : Option Addr) (w : World) (c2 : w.cell? ⟨gk, 11, none⟩ = some (.slice Ab 0 cb)) :
    Calls Tryz.prog 158 #[.pointer (some ⟨gk, 0, none⟩), .int .i64 z, .int .i64 t] w fun e w' => e = .returned (.int .i64 z) ∧ w = w' := by
  go_enter Tryz.func158, Tryz.ntmps158
  go_wp2
  go_loop [1, 7] (fun d i => d = .int .i64 z ∧ i = .int .i64 0) (fun _ _ => 0)
  case atStart => exact ⟨rfl, rfl⟩
  case round =>
    obtain ⟨rfl, rfl⟩ := hrel
    go_wp2
    go_ret
    exact ⟨rfl, rfl⟩
/-- One turn, whichever it is. -/
theorem byteListsGrow_t (B gk base B2 m cb id0 K t mg cg : Nat) (p : Int) (Ab Ag : Option Addr) (ps : List Slot) (bs : List Value) (css : List (List Value)) (F : Nat → Prop) (w : World) (tb : Tb B w) (tB : B ≤ w.heap.size) (tg : B ≤ gk) (tF : ∀ g, F g → B ≤ g) (hk : Bk w gk bs) (e1 : bs[1]? = some (.int .i64 p)) (e2 : bs[11]? = some (.slice Ab m cb)) (e4 : bs[13]? = some (.slice Ag mg cg))
    (g : GStM w base B2 m cb Ab ps css p id0 K t mg cg Ag F) (t1 : t ≤ 70) (K1 : K ≤ 1000000) (m1 : m ≤ 900000) (h0 : id0 ≤ 3000000) (hb : base ≤ w.heap.size) (hB : B2 ≤ w.heap.size) (p0 : 0 ≤ p) (p1 : p ≤ 1) :
    Calls Tryz.prog 158 #[.pointer (some ⟨gk, 0, none⟩), .int .i64 (id0 : Int), .int .i64 (t : Int)] w (GrOutM' gk base B2 m cb id0 K t Ab ps css p bs F w) := by
  rcases g.now with ⟨rfl, rfl, rfl, rfl, gr, hl⟩ | ⟨ht, rfl, qs, zss, rg, gr, hm, hl, fq, fg⟩
  · refine (byteListsGrow_firstF F gk base B2 m cb id0 K p Ab ps bs css w hk e1 e2 e4 g.ra g.ab gr B tb tB tg tF g.mar hl (by omega) m1 h0 hb hB p0 p1 g.fp).mono ?_
    rintro e w' ⟨qs, zss, Ag, cg, rfl, bk, ra, rg, gr, hm, hu, hl, hc, ha, ou⟩
    exact GrOutM'.mk1 g.ab g.fl g.fp g.fa g.mar bk ra rg gr hm.out hu (fun zs h => by have := hl.out zs h; omega) hc (fun g q => Or.inr (ha g q)) ou
  · rcases Nat.eq_zero_or_pos mg with q | q
    · subst q
      refine (byteListsGrow_zeroF gk cb id0 t Ab w (OC.cell hk 11 _ e2)).mono ?_
      rintro e w' ⟨rfl, rfl⟩
      refine ⟨Ag, cg, F, rfl, ⟨g.ra, g.ab, g.fl, g.fp, g.fa, g.mar, Or.inr ⟨Nat.succ_pos t, rfl, qs, zss, rg, gr, hm, fun zs h => Nat.le_trans (hl zs h) (by omega), fq, fg⟩⟩, by rw [set_self e4]; exact hk, fun g q => Or.inl q, Out.refl _ _⟩
    · obtain ⟨gg, rfl, hgg, og⟩ : ∃ gg, Ag = some ⟨gg, 0, none⟩ ∧ B2 ≤ gg ∧ OC w 25 1 gg mg cg (qs.map sv) := by
        rcases rg.oc with ⟨_, z, _⟩ | z
        · omega
        · exact z
      have hpm : ps.length = mg := by have := g.ra.1; simpa using this
      have hq : qs.take mg = qs := List.take_of_length_le (by rw [gr.lq, hpm]; exact Nat.le_refl _)
      refine (byteListsGrow_moreF F gk base B2 gg mg cb cg id0 (K + t) p (t : Int) Ab ps bs qs css zss w (beq_eq_false_iff_ne.2 (by omega)) hk e1 e2 e4 g.ra g.ab (by rw [hq]; exact og) hgg gr B tb tB tg tF hm hl (by omega) (by omega) h0 hb hB p0 p1 fq (fg _ ⟨_, rfl, rfl⟩)).mono ?_
      rintro e w' ⟨qs', zss', rfl, bk, ra, rg, gr, hm, hu, hl, hc, ou⟩
      refine GrOutM'.mk1 g.ab g.fl g.fp g.fa g.mar (by rw [set_self e4]; exact bk) ra (GC.of rg hgg) gr hm.out hu (fun zs h => by have := hl.out zs h; omega) hc (fun k q => Or.inl (fg k q)) ?_
      exact ⟨ou.os, ou.tape, ou.output, ou.size, fun k hk hd => ou.block k hk (fun q => hd (Or.inr q))⟩

end Go.Proofs.YtmeakhiiebeneaaGreatDoor
