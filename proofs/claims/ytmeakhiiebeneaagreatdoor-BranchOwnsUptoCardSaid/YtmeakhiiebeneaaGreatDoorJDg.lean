/- coppicekept.Book.kidsGrow, told by the blocks that may be written; one turn. -/
import Derived.Test.YtmeakhiiebeneaaGreatDoorJb
import Derived.Test.YtmeakhiiebeneaaGreatDoorN8
namespace Go.Proofs.YtmeakhiiebeneaaGreatDoor
open Go.RowKit

theorem infoE_D : (Tryz.prog.info? 124).map (fun i => (i.zero, i.size, i.bytes)) = some (some (.agg #[.int .i64 0, .int .i64 0]), 2, 16) := by kernel_rfl
theorem infoL_D : (Tryz.prog.info? 78).map (fun i => (i.zero, i.size, i.bytes)) = some (some (.slice none 0 0), 1, 24) := by kernel_rfl
theorem uniD_cell (p : Int) (I n1 : Nat) : ∀ u ∈ mkD p I n1, u.oneCell' = true := by
  intro u hu
  simp only [mkD, List.mem_cons, List.not_mem_nil, or_false] at hu
  rcases hu with rfl | rfl <;> rfl
theorem uniD (w : World) (p : Int) (I n1 : Nat) : RC (w.alloc (.cells #[.int .i64 (I : Int), .int .i64 (2 * (n1 : Int) + p)] 124)) 2 (some ⟨w.heap.size, 0, none⟩) 1 1 (mkD p I n1) :=
  OC.read (e := 124) (OC.mk rfl _ (heap_alloc_new w _) (Nat.le_refl _) (by rw [maxLen_is]; omega) rfl rfl)
section
variable {w : World} {ops : Array Oper} {rest : List Oper} {o : Oper} {a : Act} {K : Act → World → Prop} {Q : Exit → Act → World → Prop} {E : Prop}
theorem stepD_app (hgd : o.guard = none) (s x : Operand) (ho : o.op = .call { callee := .builtin .append, args := #[s, x], argTypes := #[78, 78] })
    (base : Nat) (A : Option Addr) (n c : Nat) (xs : List Value) (hs : a.eval s = .slice A n c) (hown : GC w base 124 2 A n c xs)
    (ad : Addr) (ys : List Value) (hx : a.eval x = .slice (some ad) 1 1) (hr : RC w 2 (some ad) 1 1 ys) (h1 : ∀ u ∈ ys, u.oneCell' = true) (hb : n ≤ 100000000)
    (h : ∀ g' c' w', ((∃ g, A = some ⟨g, 0, none⟩ ∧ g' = g ∧ c' = c ∧ w.grownBy w' (some g)) ∨ (w.heap.size ≤ g' ∧ w.grownBy w' none)) → OC w' 124 2 g' (n + 1) c' (xs ++ ys) → K (a.put o.dst (.slice (some ⟨g', 0, none⟩) (n + 1) c')) w') :
    if Region.wanted o (yielded ops a.tmps) = true then Oper.wp Tryz.prog o a w K Q else E := by
  obtain ⟨i0, hi, hz0, hz1, hz2⟩ := info_parts infoE_D
  exact step_of hgd (opX_app s x 78 ho base 124 i0 (.agg #[.int .i64 0, .int .i64 0]) 2 16 Tryz.underlying78 hi hz0 hz1 hz2 rfl (by decide) A n c xs hs hown ad 1 1 ys hx hr h1 (by decide) (by omega) (by rw [maxLen_is]; omega) h)
/-- append onto the row of such lists. -/
theorem opDx_app (s x : Operand) (ho : o.op = .call { callee := .builtin .append, args := #[s, x], argTypes := #[32, 32] })
    (base : Nat) (A : Option Addr) (n c : Nat) (l : List Value) (hs : a.eval s = .slice A n c) (hown : GC w base 78 1 A n c l)
    (ad : Addr) (p : Option Addr × Nat × Nat) (hx : a.eval x = .slice (some ad) 1 1) (hr : RC w 1 (some ad) 1 1 [sv p]) (hb : n + 1 ≤ 1000000) (hbase : base ≤ w.heap.size)
    (h : ∀ g' c' w', base ≤ g' → ((∃ b, A = some b ∧ g' = b.block) ∨ w.heap.size ≤ g') → OC w' 78 1 g' (n + 1) c' (l ++ [sv p]) → w.grownBy w' (A.map (·.block)) → K (a.put o.dst (.slice (some ⟨g', 0, none⟩) (n + 1) c')) w') :
    o.wp Tryz.prog a w K Q := by
  obtain ⟨i0, hi, hz0, hz1, hz2⟩ := info_parts infoL_D
  refine opX_app s x 32 ho base 78 i0 (.slice none 0 0) 1 24 Tryz.underlying32 hi hz0 hz1 hz2 rfl (by decide) A n c l hs hown ad 1 1 [sv p] hx hr (sv_one [p]) (by decide) (by omega) (by rw [maxLen_is]; omega) fun g' c' w' q o' => ?_
  rcases q with ⟨g, rfl, rfl, rfl, k⟩ | ⟨hg, k⟩
  · rcases hown.oc with ⟨e0, _⟩ | ⟨g0, e0, hb0, _⟩
    · cases e0
    · cases e0
      exact h _ _ w' hb0 (Or.inl ⟨_, rfl, rfl⟩) o' k
  · exact h _ _ w' (Nat.le_trans hbase hg) (Or.inr hg) o' (grown_any k)
theorem wpDx_app (hgd : o.guard = none) (s x : Operand) (ho : o.op = .call { callee := .builtin .append, args := #[s, x], argTypes := #[32, 32] })
    (base : Nat) (A : Option Addr) (n c : Nat) (l : List Value) (hs : a.eval s = .slice A n c) (hown : GC w base 78 1 A n c l)
    (ad : Addr) (p : Option Addr × Nat × Nat) (hx : a.eval x = .slice (some ad) 1 1) (hr : RC w 1 (some ad) 1 1 [sv p]) (hb : n + 1 ≤ 1000000) (hbase : base ≤ w.heap.size)
    (h : ∀ g' c' w', base ≤ g' → ((∃ b, A = some b ∧ g' = b.block) ∨ w.heap.size ≤ g') → OC w' 78 1 g' (n + 1) c' (l ++ [sv p]) → w.grownBy w' (A.map (·.block)) → wpList Tryz.prog ops Q rest (a.put o.dst (.slice (some ⟨g', 0, none⟩) (n + 1) c')) w') :
    wpList Tryz.prog ops Q (o :: rest) a w :=
  wpList_plain hgd fun _ hK => opDx_app s x ho base A n c l hs hown ad p hx hr hb hbase fun g' c' w' h1 h2 h3 h4 => hK _ _ (h g' c' w' h1 h2 h3 h4)
theorem stepDx_app (hgd : o.guard = none) (s x : Operand) (ho : o.op = .call { callee := .builtin .append, args := #[s, x], argTypes := #[32, 32] })
    (base : Nat) (A : Option Addr) (n c : Nat) (l : List Value) (hs : a.eval s = .slice A n c) (hown : GC w base 78 1 A n c l)
    (ad : Addr) (p : Option Addr × Nat × Nat) (hx : a.eval x = .slice (some ad) 1 1) (hr : RC w 1 (some ad) 1 1 [sv p]) (hb : n + 1 ≤ 1000000) (hbase : base ≤ w.heap.size)
    (h : ∀ g' c' w', base ≤ g' → ((∃ b, A = some b ∧ g' = b.block) ∨ w.heap.size ≤ g') → OC w' 78 1 g' (n + 1) c' (l ++ [sv p]) → w.grownBy w' (A.map (·.block)) → K (a.put o.dst (.slice (some ⟨g', 0, none⟩) (n + 1) c')) w') :
    if Region.wanted o (yielded ops a.tmps) = true then Oper.wp Tryz.prog o a w K Q else E :=
  step_of hgd (opDx_app s x ho base A n c l hs hown ad p hx hr hb hbase h)
end
/-- a new cell with one slice. -/
theorem svD_cell (w : World) (p : Option Addr × Nat × Nat) : RC (w.alloc (.cells #[.slice p.1 p.2.1 p.2.2] 78)) 1 (some ⟨w.heap.size, 0, none⟩) 1 1 [sv p] :=
  OC.read (e := 78) (OC.mk rfl _ (heap_alloc_new w _) (Nat.le_refl _) (by rw [maxLen_is]; omega) rfl rfl)
def GrowOutD (F : Nat → Prop) (gk base B2 gg m cb cg id0 K : Nat) (p : Int) (Ab : Option Addr) (ps : List Slot) (bs : List Value) (css : List (List Value)) (w : World) (e : Ending) (w' : World) : Prop :=
  ∃ (qs : List Slot) (zss' : List (List Value)), e = .returned (.int .i64 ((id0 + m : Nat) : Int)) ∧ Bk w' gk bs ∧ GC w' base 78 1 Ab m cb (ps.map sv) ∧ OC w' 78 1 gg m cg ((qs.take m).map sv) ∧ GR w' base 124 2 B2 ps qs css zss' ∧ Hid (MarkR (mkD p) id0 m zss') ∧ Hid (∀ zs ∈ zss', zs.length ≤ (K + 1) * 2) ∧ Cov F w.heap.size qs ∧ Out F w w'
theorem GR.nD_ {w : World} {base e sz B2 : Nat} {ps qs : List Slot} {css zss : List (List Value)} (h : GR w base e sz B2 ps qs css zss) {m : Nat} (hm : ps.length = m) : qs.length = m ∧ zss.length = m := ⟨by rw [h.lq, hm], by rw [h.lz, hm]⟩

set_option maxRecDepth 100000 in
set_option maxHeartbeats 8000000 in
theorem kidsGrow_moreF (F : Nat → Prop) (gk base B2 gg m cb cg id0 K : Nat) (p t : Int) (Ab : Option Addr) (ps : List Slot) (bs : List Value) (qs0 : List Slot) (css zss : List (List Value)) (w : World) (ht : (t == 0) = false) (hk : Bk w gk bs) (e1 : bs[1]? = some (.int .i64 p)) (e2 : bs[23]? = some (.slice Ab m cb)) (e4 : bs[25]? = some (.slice (some ⟨gg, 0, none⟩) m cg))
    (ra : GC w base 78 1 Ab m cb (ps.map sv)) (hab : ∀ a, Ab = some a → a.block < B2) (rg : OC w 78 1 gg m cg ((qs0.take m).map sv)) (hgg : B2 ≤ gg) (gr : GR w base 124 2 B2 ps qs0 css zss) (hm : MarkR (mkD p) id0 m zss) (hK : ∀ zs ∈ zss, zs.length ≤ K * 2) (K1 : K ≤ 2000000) (m1 : m ≤ 1000000) (h0 : id0 ≤ 1000000) (hb : base ≤ w.heap.size) (hB : B2 ≤ w.heap.size) (p0 : 0 ≤ p) (p1 : p ≤ 1) (hFq : ∀ g, InPs qs0 g → F g) (hFg : F gg) :
    Calls Tryz.prog 162 #[.pointer (some ⟨gk, 0, none⟩), .int .i64 (id0 : Int), .int .i64 t] w (GrowOutD F gk base B2 gg m cb cg id0 K p Ab ps bs css w) := by
  have HPS : Hid (ps.length = m) := hideIt (by have := ra.1; simpa using this)
  have HAB := hideIt hab
  have HGG := hideIt hgg
  have E1 := hideIt e1
  have E2 := hideIt e2
  have E4 := hideIt e4
  have HM0 := hideIt hm
  have HL0 := hideIt (LenR.start hK)
  have HB1 := hideIt hb
  have HB2 := hideIt hB
  have HC0 : Hid (Cov F w.heap.size qs0) := hideIt fun g q => Or.inl (hFq g q)
  have HFG := hideIt hFg
  clear hFq hFg hab hgg e1 e2 e4 hm hK hb hB
  go_enter Tryz.func162, Tryz.ntmps162
  go_wp2
  go_loopw [1, 7] (fun dd ii wr => ∃ (i id : Nat) (qs : List Slot) (zss' : List (List Value)), i ≤ m ∧ Hid (id = id0 + i) ∧ dd = .int .i64 (id : Int) ∧ ii = .int .i64 (i : Int) ∧ Bk wr gk bs ∧ GC wr base 78 1 Ab m cb (ps.map sv) ∧ OC wr 78 1 gg m cg ((qs.take m).map sv) ∧ GR wr base 124 2 B2 ps qs css zss' ∧ Hid (MarkR (mkD p) id0 m zss') ∧ Hid (LenR K 2 i zss') ∧ Hid (Cov F w.heap.size qs) ∧ Out F w wr)
    (fun _ ii _ => m - (intOf ii).toNat)
  case atStart => exact ⟨0, id0, qs0, zss, by omega, hideIt rfl, rfl, rfl, hk, ra, rg, gr, HM0, HL0, HC0, Out.refl _ _⟩
  case round =>
    clear hk ra rg gr HM0 HL0 HC0
    obtain ⟨i, id, qs, zss', hi, HI, rfl, rfl, bk, ra, rg, gr, HM, HLN, HC, ou⟩ := hrel
    have c2 := OC.cell bk 23 _ E2.out
    by_cases hlt : i < m
    · have i1 : (i : Int) < (m : Int) := by omega
      have idl : id ≤ 2000000 := by rw [HI.out]; omega
      have HI2 : Hid (id + 1 = id0 + (i + 1)) := hideIt (by rw [HI.out]; omega)
      go_upto_region 7 with fail
      obtain ⟨⟨A1, n1, k1⟩, hq⟩ : ∃ q, qs[i]? = some q := ⟨_, List.getElem?_eq_getElem (by rw [(gr.nD_ HPS.out).1]; exact hlt)⟩
      obtain ⟨zs, hz⟩ : ∃ zs, zss'[i]? = some zs := ⟨_, List.getElem?_eq_getElem (by rw [(gr.nD_ HPS.out).2]; exact hlt)⟩
      have own : GC wr base 124 2 A1 n1 k1 zs := by
        obtain ⟨p', q', cs', zs', g1, g2, g3, g4, f⟩ := gr.zat i (by rw [HPS.out]; exact hlt)
        rw [hq] at g2; cases g2
        rw [hz] at g4; cases g4
        exact f.own
      have zl : zs.length = n1 * 2 := own.len
      have n1l : n1 ≤ K := by have := (HLN.out i zs hz).2 (Nat.le_refl _); rw [zl] at this; omega
      have cr := OC.cell rg i (.slice A1 n1 k1) (by rw [List.getElem?_map, List.getElem?_take, if_pos hlt, hq]; rfl)
      have cp := OC.cell bk 1 _ E1.out
      have c4 := OC.cell bk 25 _ E4.out
      obtain ⟨I, hI⟩ : ∃ I, id + 1 = I := ⟨_, rfl⟩
      have MK := kidsMark_calls gk p ((id : Int) + 1) I n1 wr cp (by omega) p0 p1 (by omega) (by omega)
      have HMK : Hid (MarkR (mkD p) id0 m (zss'.set i (zs ++ mkD p I n1))) := hideIt (HM.out.grow (by decide) (fun _ _ => rfl) hlt hz zl (by rw [← hI, HI.out]))
      have HLN2 : Hid (LenR K 2 (i + 1) (zss'.set i (zs ++ mkD p I n1))) := hideIt (HLN.out.step hz rfl)
      have HI1 := hideIt hI
      have HQ := hideIt hq
      have HZ := hideIt hz
      have ig : (i : Int) < (m : Int) := by have := hlt; omega
      clear hI hq hz zl
      go_upto_region 8 with (go_at_call 200; (with_reducible refine MK.mono ?_); rintro en w7 ⟨rfl, x7⟩)
      have b7 := blw_step x7 (below1 w7 (.cells #[.int .i64 (I : Int), .int .i64 (2 * (n1 : Int) + p)] 124))
      have itw := KxAt.new w7 124 (I : Int) (2 * (n1 : Int) + p)
      generalize w7.alloc (.cells #[.int .i64 (I : Int), .int .i64 (2 * (n1 : Int) + p)] 124) = w8 at *
      generalize w7.heap.size = g8 at *
      replace bk := Bk.below bk b7
      replace ra := GC.below ra b7
      replace rg := OC.below rg b7
      replace gr := gr.below b7
      replace own := GC.below own b7
      replace ou := ou.step b7
      have c4 := OC.cell bk 25 _ E4.out
      have cr := OC.cell rg i (.slice A1 n1 k1) (by rw [List.getElem?_map, List.getElem?_take, if_pos hlt, HQ.out]; rfl)
      have itd := itw.below (drew1 w8)
      obtain ⟨y0, y1⟩ := itd.head
      clear itw itd b7 x7
      have ba := below1 w8.drew (.cells #[.int .i64 (I : Int), .int .i64 (2 * (n1 : Int) + p)] 124)
      have bd := blw_step (drew1 w8) ba
      have bk1 := Bk.below bk bd
      have ra1 := GC.below ra bd
      have rg1 := OC.below rg bd
      have gr1 := gr.below bd
      have own1 := GC.below own bd
      have ou1 := ou.step bd
      have R1 := uniD w8.drew p I n1
      have zb1 := Nat.le_trans HB1.out ou1.size
      have zb2 := Nat.le_trans HB2.out ou1.size
      clear MK bk ra rg gr own ou bd ba
      have crd : w8.drew.cell? ⟨gg, i, none⟩ = some (.slice A1 n1 k1) := cr
      have c4d : w8.drew.cell? ⟨gk, 25, none⟩ = some (.slice (some ⟨gg, 0, none⟩) m cg) := c4
      have c41 := OC.cell bk1 25 _ E4.out
      have cr1 := OC.cell rg1 i (.slice A1 n1 k1) (by rw [List.getElem?_map, List.getElem?_take, if_pos hlt, HQ.out]; rfl)
      have c41a : (w8.alloc (.cells #[.int .i64 (I : Int), .int .i64 (2 * (n1 : Int) + p)] 124)).cell? ⟨gk, 25, none⟩ = some (.slice (some ⟨gg, 0, none⟩) m cg) := c41
      have cr1a : (w8.alloc (.cells #[.int .i64 (I : Int), .int .i64 (2 * (n1 : Int) + p)] 124)).cell? ⟨gg, i, none⟩ = some (.slice A1 n1 k1) := cr1
      go_region_law
        (first
          | (refine stepD_app rfl (.tmp 60) (.tmp 62) rfl base _ _ _ _ rfl own1 _ (mkD p I n1) rfl R1 (uniD_cell p I n1) (by omega) ?_; intro g3 c3 w3 q3 o3; have st := grow_stepF (by decide) (by decide) (by decide) bk1 ra1 HAB.out rg1 HGG.out gr1 HQ.out HZ.out q3 o3 zb1 zb2; have c43 := OC.cell st.1.1 25 _ E4.out; have cr3 := OC.cell st.1.2 i (.slice A1 n1 k1) (by rw [List.getElem?_map, List.getElem?_take, if_pos hlt, HQ.out]; rfl); have fr3 := OC.free st.1.2 i; have c45 := OC.cell st.2.1 25 _ E4.out))
      all_goals
        obtain ⟨-, bk4, ra4, rg4, gr4, ou4⟩ := st
        have HC2 : Hid (Cov F w.heap.size (qs.set i (some ⟨g3, 0, none⟩, n1 + 1, c3))) := hideIt (HC.out.set fun g hg => by
          obtain ⟨a, ea, eg⟩ := hg
          cases ea
          rcases q3 with ⟨g', e', q', _, _⟩ | ⟨q', _⟩
          · exact HC.out g ⟨_, List.mem_of_getElem? HQ.out, _, e', by rw [← eg]; exact q'.symm⟩
          · exact Or.inr (by have e3 : g3 = g := eg; exact e3 ▸ Nat.le_trans ou1.size q'))
        have ou5 := ou1.trans ou4 (fun g q => by
          rcases q with q | rfl
          · exact HC.out g q
          · exact Or.inl HFG.out)
        go_wp2
        go_roundw
        case rel => exact ⟨i + 1, id + 1, _, _, by omega, HI2, by go_num, by go_num, bk4, ra4, rg4, gr4, HMK, HLN2, HC2, ou5⟩
        case measure => simp [intOf]; omega
    · obtain rfl : m = i := by omega
      have E : Hid (Ending.returned (.int .i64 (id : Int)) = .returned (.int .i64 ((id0 + m : Nat) : Int))) := hideIt (by rw [HI.out])
      go_wp2
      go_ret
      exact ⟨qs, zss', E.out, bk, ra, rg, gr, HM, hideIt HLN.out.done, HC.out, ou⟩

def RowedD (F : Nat → Prop) (gk base B2 m cb i : Nat) (Ab Ag : Option Addr) (ps qs : List Slot) (bs : List Value) (css zss : List (List Value)) (w wx : World) : Prop :=
  ∃ g5 c5, B2 ≤ g5 ∧ Bk wx gk (bs.set 25 (.slice (some ⟨g5, 0, none⟩) (i + 1) c5)) ∧ GC wx base 78 1 Ab m cb (ps.map sv) ∧ OC wx 78 1 g5 (i + 1) c5 ((qs.take (i + 1)).map sv) ∧ GR wx base 124 2 B2 ps qs css zss ∧ Out (fun g => g = gk ∨ F g) w wx ∧ Hid ((∃ a, Ag = some a ∧ g5 = a.block) ∨ w.heap.size ≤ g5)
def GrowOut0D (F : Nat → Prop) (gk base B2 m cb id0 K : Nat) (p : Int) (Ab : Option Addr) (ps : List Slot) (bs : List Value) (css : List (List Value)) (w : World) (e : Ending) (w' : World) : Prop :=
  ∃ (qs : List Slot) (zss' : List (List Value)) (Ag : Option Addr) (cg : Nat), e = .returned (.int .i64 ((id0 + m : Nat) : Int)) ∧ Bk w' gk (bs.set 25 (.slice Ag m cg)) ∧ GC w' base 78 1 Ab m cb (ps.map sv) ∧ GC w' B2 78 1 Ag m cg ((qs.take m).map sv) ∧ GR w' base 124 2 B2 ps qs css zss' ∧ Hid (MarkR (mkD p) id0 m zss') ∧ Hid (∀ zs ∈ zss', zs.length ≤ (K + 1) * 2) ∧ Cov F w.heap.size qs ∧ (∀ g, AtB Ag g → w.heap.size ≤ g) ∧ Out (fun g => g = gk ∨ F g) w w'
set_option maxRecDepth 100000 in
set_option maxHeartbeats 8000000 in
theorem kidsGrow_firstF (F : Nat → Prop) (gk base B2 m cb id0 K : Nat) (p : Int) (Ab : Option Addr) (ps : List Slot) (bs : List Value) (css : List (List Value)) (w : World) (hk : Bk w gk bs) (e1 : bs[1]? = some (.int .i64 p)) (e2 : bs[23]? = some (.slice Ab m cb)) (e4 : bs[25]? = some (.slice none 0 0))
    (ra : GC w base 78 1 Ab m cb (ps.map sv)) (hab : ∀ a, Ab = some a → a.block < B2) (gr : GR w base 124 2 B2 ps ps css css) (hm : MarkR (mkD p) id0 m css) (hK : ∀ zs ∈ css, zs.length ≤ K * 2) (K1 : K ≤ 2000000) (m1 : m ≤ 900000) (h0 : id0 ≤ 1000000) (hb : base ≤ w.heap.size) (hB : B2 ≤ w.heap.size) (p0 : 0 ≤ p) (p1 : p ≤ 1) (hFq : ∀ g, InPs ps g → F g) :
    Calls Tryz.prog 162 #[.pointer (some ⟨gk, 0, none⟩), .int .i64 (id0 : Int), .int .i64 0] w (GrowOut0D F gk base B2 m cb id0 K p Ab ps bs css w) := by
  have HPS : Hid (ps.length = m) := hideIt (by have := ra.1; simpa using this)
  have HAB := hideIt hab
  have E1 := hideIt e1
  have E2 := hideIt e2
  have hk0 : Bk w gk (bs.set 25 (.slice none 0 0)) := by rw [set_self e4]; exact hk
  have HLB : Hid (25 < bs.length) := hideIt (List.getElem?_eq_some_iff.1 e4).1
  have HM0 := hideIt hm
  have HL0 := hideIt (LenR.start hK)
  have HB1 := hideIt hb
  have HB2 := hideIt hB
  have HC0 : Hid (Cov F w.heap.size ps) := hideIt fun g q => Or.inl (hFq g q)
  clear hFq hab e1 e2 e4 hm hK hb hB hk
  go_enter Tryz.func162, Tryz.ntmps162
  go_wp2
  go_loopw [1, 7] (fun dd ii wr => ∃ (i id : Nat) (qs : List Slot) (zss' : List (List Value)) (Ag : Option Addr) (cg : Nat), i ≤ m ∧ Hid (id = id0 + i) ∧ dd = .int .i64 (id : Int) ∧ ii = .int .i64 (i : Int) ∧ Bk wr gk (bs.set 25 (.slice Ag i cg)) ∧ GC wr base 78 1 Ab m cb (ps.map sv) ∧ GC wr B2 78 1 Ag i cg ((qs.take i).map sv) ∧ GR wr base 124 2 B2 ps qs css zss' ∧ Hid (MarkR (mkD p) id0 m zss') ∧ Hid (LenR K 2 i zss') ∧ Hid (∀ j, i ≤ j → qs[j]? = ps[j]?) ∧ Hid (Cov F w.heap.size qs ∧ ∀ g, AtB Ag g → w.heap.size ≤ g) ∧ Out (fun g => g = gk ∨ F g) w wr)
    (fun _ ii _ => m - (intOf ii).toNat)
  case atStart => exact ⟨0, id0, ps, css, none, 0, by omega, hideIt rfl, rfl, rfl, hk0, ra, GC.nil _ _ _ _, gr, HM0, HL0, hideIt (fun _ _ => rfl), hideIt ⟨HC0.out, fun g q => by obtain ⟨a, e, _⟩ := q; cases e⟩, Out.refl _ _⟩
  case round =>
    clear hk0 ra gr HM0 HL0 HC0
    obtain ⟨i, id, qs, zss', Ag, cg, hi, HI, rfl, rfl, bk0, ra0, rg0, gr0, HM, HLN, HV, HC, ou0⟩ := hrel
    have c2 := OC.cell bk0 23 _ (by rw [List.getElem?_set, if_neg (by decide)]; exact E2.out)
    have c4 := OC.cell bk0 25 (.slice Ag i cg) (List.getElem?_set_self HLB.out)
    by_cases hlt : i < m
    · have i1 : (i : Int) < (m : Int) := by omega
      have idl : id ≤ 2000000 := by rw [HI.out]; omega
      have HI2 : Hid (id + 1 = id0 + (i + 1)) := hideIt (by rw [HI.out]; omega)
      obtain ⟨⟨B1, l1, d1⟩, hP⟩ : ∃ q, ps[i]? = some q := ⟨_, List.getElem?_eq_getElem (by rw [HPS.out]; exact hlt)⟩
      have hQ : qs[i]? = some (B1, l1, d1) := (HV.out i (Nat.le_refl _)).trans hP
      rcases ra0.oc with ⟨_, z, _⟩ | ⟨ga, rfl, _, oa⟩
      · omega
      have cra := OC.cell oa i (.slice B1 l1 d1) (by rw [List.getElem?_map, hP]; rfl)
      go_upto_region 6 with fail
      have HQ := hideIt hQ
      have HP := hideIt hP
      clear hQ hP
      go_cut [] from 22 to 37 (fun wx => RowedD F gk base B2 m cb i (some ⟨ga, 0, none⟩) Ag ps qs bs css zss' w wx)
      case first =>
        have ba := below1 wr.drew (.cells #[.slice B1 l1 d1] 78)
        have bd := blw_step (drew1 wr) ba
        have bk1 := Bk.below bk0 bd
        have ra1 := GC.below ra0 bd
        have rg1 := GC.below rg0 bd
        have gr1 := gr0.below bd
        have ou1 := ou0.step bd
        have R1 := svD_cell wr.drew (B1, l1, d1)
        have zb2 := Nat.le_trans HB2.out ou1.size
        have c21 := OC.cell bk1 23 (.slice (some ⟨ga, 0, none⟩) m cb) (by rw [List.getElem?_set, if_neg (by decide)]; exact E2.out)
        have c41 := OC.cell bk1 25 (.slice Ag i cg) (List.getElem?_set_self HLB.out)
        have cr1 := ra1.cell i (.slice B1 l1 d1) (by rw [List.getElem?_map, HP.out]; rfl)
        have c21a : (wr.alloc (.cells #[.slice B1 l1 d1] 78)).cell? ⟨gk, 23, none⟩ = some (.slice (some ⟨ga, 0, none⟩) m cb) := c21
        have c41a : (wr.alloc (.cells #[.slice B1 l1 d1] 78)).cell? ⟨gk, 25, none⟩ = some (.slice Ag i cg) := c41
        have cr1a : (wr.alloc (.cells #[.slice B1 l1 d1] 78)).cell? ⟨ga, i, none⟩ = some (.slice B1 l1 d1) := cr1
        clear bk0 ra0 rg0 gr0 ou0 oa ba bd
        go_region_law
          (first
            | (refine stepDx_app rfl (.tmp 26) (.tmp 34) rfl B2 _ _ _ _ rfl rg1 _ (B1, l1, d1) rfl R1 (by omega) zb2 ?_; intro g5 c5 w5 q5 Q5 o5 k5; have st6 := row_stepF (F := 25) (by decide) (by decide) (by decide) bk1 ra1 HAB.out rg1 gr1 HQ.out k5 o5 q5; have f5 := OC.free st6.1.1 25; have c45 := OC.cell st6.1.1 25 (.slice Ag i cg) (List.getElem?_set_self HLB.out); have c25 := OC.cell st6.1.1 23 (.slice (some ⟨ga, 0, none⟩) m cb) (by rw [List.getElem?_set, if_neg (by decide)]; exact E2.out); have cr5 := st6.1.2.cell i (.slice B1 l1 d1) (by rw [List.getElem?_map, HP.out]; rfl)))
        all_goals
          go_wp2
          go_meet
          obtain ⟨-, bk, ra, rg, gr, ou6⟩ := st6
          rw [List.set_set] at bk
          exact ⟨g5, c5, q5, bk, ra, rg, gr, ou1.trans ou6 (fun g q => by
            rcases q with q | q
            · exact Or.inl (Or.inl q)
            · exact Or.inr (HC.out.2 g q)), hideIt (by
            rcases Q5 with q | q
            · exact Or.inl q
            · exact Or.inr (Nat.le_trans ou1.size q))⟩
      case rest =>
        obtain ⟨g5, c5, q5, bk, ra, rg, gr, ou, HR5⟩ := hcut
        have HGG := hideIt q5
        clear bk0 ra0 rg0 gr0 ou0 oa c2 c4 cra q5
        have X1 : Hid ((bs.set 25 (.slice (some ⟨g5, 0, none⟩) (i + 1) c5))[1]? = some (.int .i64 p)) := hideIt (by rw [List.getElem?_set, if_neg (by decide)]; exact E1.out)
        have X4 : Hid ((bs.set 25 (.slice (some ⟨g5, 0, none⟩) (i + 1) c5))[25]? = some (.slice (some ⟨g5, 0, none⟩) (i + 1) c5)) := hideIt (List.getElem?_set_self HLB.out)
        have hii : i < i + 1 := Nat.lt_succ_self i
        have ig1 : (i : Int) < (i : Int) + 1 := by omega
        obtain ⟨⟨A1, n1, k1⟩, hq⟩ : ∃ q, qs[i]? = some q := ⟨_, List.getElem?_eq_getElem (by rw [(gr.nD_ HPS.out).1]; exact hlt)⟩
        obtain ⟨zs, hz⟩ : ∃ zs, zss'[i]? = some zs := ⟨_, List.getElem?_eq_getElem (by rw [(gr.nD_ HPS.out).2]; exact hlt)⟩
        have own : GC wc base 124 2 A1 n1 k1 zs := by
          obtain ⟨p', q', cs', zs', g1, g2, g3, g4, f⟩ := gr.zat i (by rw [HPS.out]; exact hlt)
          rw [hq] at g2; cases g2
          rw [hz] at g4; cases g4
          exact f.own
        have zl : zs.length = n1 * 2 := own.len
        have n1l : n1 ≤ K := by have := (HLN.out i zs hz).2 (Nat.le_refl _); rw [zl] at this; omega
        have cr := OC.cell rg i (.slice A1 n1 k1) (by rw [List.getElem?_map, List.getElem?_take, if_pos hii, hq]; rfl)
        have cp := OC.cell bk 1 _ X1.out
        have c4 := OC.cell bk 25 _ X4.out
        obtain ⟨I, hI⟩ : ∃ I, id + 1 = I := ⟨_, rfl⟩
        have MK := kidsMark_calls gk p ((id : Int) + 1) I n1 wc cp (by omega) p0 p1 (by omega) (by omega)
        have HMK : Hid (MarkR (mkD p) id0 m (zss'.set i (zs ++ mkD p I n1))) := hideIt (HM.out.grow (by decide) (fun _ _ => rfl) hlt hz zl (by rw [← hI, HI.out]))
        have HLN2 : Hid (LenR K 2 (i + 1) (zss'.set i (zs ++ mkD p I n1))) := hideIt (HLN.out.step hz rfl)
        have HI1 := hideIt hI
        have HQ := hideIt hq
        have HZ := hideIt hz
        have ig : (i : Int) < ((i : Int) + 1) := by have := hii; omega
        clear hI hq hz zl
        go_upto_region 8 with (go_at_call 200; (with_reducible refine MK.mono ?_); rintro en w7 ⟨rfl, x7⟩)
        have b7 := blw_step x7 (below1 w7 (.cells #[.int .i64 (I : Int), .int .i64 (2 * (n1 : Int) + p)] 124))
        have itw := KxAt.new w7 124 (I : Int) (2 * (n1 : Int) + p)
        generalize w7.alloc (.cells #[.int .i64 (I : Int), .int .i64 (2 * (n1 : Int) + p)] 124) = w8 at *
        generalize w7.heap.size = g8 at *
        replace bk := Bk.below bk b7
        replace ra := GC.below ra b7
        replace rg := OC.below rg b7
        replace gr := gr.below b7
        replace own := GC.below own b7
        replace ou := ou.step b7
        have c4 := OC.cell bk 25 _ X4.out
        have cr := OC.cell rg i (.slice A1 n1 k1) (by rw [List.getElem?_map, List.getElem?_take, if_pos hii, HQ.out]; rfl)
        have itd := itw.below (drew1 w8)
        obtain ⟨y0, y1⟩ := itd.head
        clear itw itd b7 x7
        have ba := below1 w8.drew (.cells #[.int .i64 (I : Int), .int .i64 (2 * (n1 : Int) + p)] 124)
        have bd := blw_step (drew1 w8) ba
        have bk1 := Bk.below bk bd
        have ra1 := GC.below ra bd
        have rg1 := OC.below rg bd
        have gr1 := gr.below bd
        have own1 := GC.below own bd
        have ou1 := ou.step bd
        have R1 := uniD w8.drew p I n1
        have zb1 := Nat.le_trans HB1.out ou1.size
        have zb2 := Nat.le_trans HB2.out ou1.size
        clear MK bk ra rg gr own ou bd ba
        have crd : w8.drew.cell? ⟨g5, i, none⟩ = some (.slice A1 n1 k1) := cr
        have c4d : w8.drew.cell? ⟨gk, 25, none⟩ = some (.slice (some ⟨g5, 0, none⟩) (i + 1) c5) := c4
        have c41 := OC.cell bk1 25 _ X4.out
        have cr1 := OC.cell rg1 i (.slice A1 n1 k1) (by rw [List.getElem?_map, List.getElem?_take, if_pos hii, HQ.out]; rfl)
        have c41a : (w8.alloc (.cells #[.int .i64 (I : Int), .int .i64 (2 * (n1 : Int) + p)] 124)).cell? ⟨gk, 25, none⟩ = some (.slice (some ⟨g5, 0, none⟩) (i + 1) c5) := c41
        have cr1a : (w8.alloc (.cells #[.int .i64 (I : Int), .int .i64 (2 * (n1 : Int) + p)] 124)).cell? ⟨g5, i, none⟩ = some (.slice A1 n1 k1) := cr1
        go_region_law
          (first
            | (refine stepD_app rfl (.tmp 60) (.tmp 62) rfl base _ _ _ _ rfl own1 _ (mkD p I n1) rfl R1 (uniD_cell p I n1) (by omega) ?_; intro g3 c3 w3 q3 o3; have st := grow_stepF (by decide) (by decide) (by decide) bk1 ra1 HAB.out rg1 HGG.out gr1 HQ.out HZ.out q3 o3 zb1 zb2; have c43 := OC.cell st.1.1 25 _ X4.out; have cr3 := OC.cell st.1.2 i (.slice A1 n1 k1) (by rw [List.getElem?_map, List.getElem?_take, if_pos hii, HQ.out]; rfl); have fr3 := OC.free st.1.2 i; have c45 := OC.cell st.2.1 25 _ X4.out))
        all_goals
          obtain ⟨-, bk4, ra4, rg4, gr4, ou4⟩ := st
          have HC2 : Hid (Cov F w.heap.size (qs.set i (some ⟨g3, 0, none⟩, n1 + 1, c3))) := hideIt (HC.out.1.set fun g hg => by
            obtain ⟨a, ea, eg⟩ := hg
            cases ea
            rcases q3 with ⟨g', e', q', _, _⟩ | ⟨q', _⟩
            · exact HC.out.1 g ⟨_, List.mem_of_getElem? HQ.out, _, e', by rw [← eg]; exact q'.symm⟩
            · exact Or.inr (by have e3 : g3 = g := eg; exact e3 ▸ Nat.le_trans ou1.size q'))
          have HN5 : Hid (w.heap.size ≤ g5) := hideIt (by
            rcases HR5.out with ⟨a, ea, eb⟩ | q
            · rw [eb]; exact HC.out.2 a.block ⟨a, ea, rfl⟩
            · exact q)
          have ou5 := ou1.trans ou4 (fun g q => by
            rcases q with q | rfl
            · rcases HC.out.1 g q with z | z
              · exact Or.inl (Or.inr z)
              · exact Or.inr z
            · exact Or.inr HN5.out)
          have HV2 : Hid (∀ j, i + 1 ≤ j → (qs.set i (some ⟨g3, 0, none⟩, n1 + 1, c3))[j]? = ps[j]?) := hideIt fun j hj => by
            rw [List.getElem?_set, if_neg (by omega)]; exact HV.out j (by omega)
          go_wp2
          go_roundw
          case rel => exact ⟨i + 1, id + 1, _, _, some ⟨g5, 0, none⟩, c5, by omega, HI2, by go_num, by go_num, bk4, ra4, GC.of rg4 HGG.out, gr4, HMK, HLN2, HV2, hideIt ⟨HC2.out, fun g q => by obtain ⟨a, e, q⟩ := q; cases e; exact q ▸ HN5.out⟩, ou5⟩
          case measure => simp [intOf]; omega
    · obtain rfl : m = i := by omega
      have E : Hid (Ending.returned (.int .i64 (id : Int)) = .returned (.int .i64 ((id0 + m : Nat) : Int))) := hideIt (by rw [HI.out])
      go_wp2
      go_ret
      exact ⟨qs, zss', Ag, cg, E.out, bk0, ra0, rg0, gr0, HM, hideIt HLN.out.done, HC.out.1, HC.out.2, ou0⟩


set_option maxRecDepth 100000 in
set_option maxHeartbeats 1000000 in
theorem kidsGrow_zeroF (gk cb : Nat) (z t : Int) (Ab : Option Addr) (w : World) (c2 : w.cell? ⟨gk, 23, none⟩ = some (.slice Ab 0 cb)) :
    Calls Tryz.prog 162 #[.pointer (some ⟨gk, 0, none⟩), .int .i64 z, .int .i64 t] w fun e w' => e = .returned (.int .i64 z) ∧ w = w' := by
  go_enter Tryz.func162, Tryz.ntmps162
  go_wp2
  go_loop [1, 7] (fun d i => d = .int .i64 z ∧ i = .int .i64 0) (fun _ _ => 0)
  case atStart => exact ⟨rfl, rfl⟩
  case round =>
    obtain ⟨rfl, rfl⟩ := hrel
    go_wp2
    go_ret
    exact ⟨rfl, rfl⟩
/-- One turn, whichever it is. -/
theorem kidsGrow_t (gk base B2 m cb id0 K t mg cg : Nat) (p : Int) (Ab Ag : Option Addr) (ps : List Slot) (bs : List Value) (css : List (List Value)) (F : Nat → Prop) (w : World) (hk : Bk w gk bs) (e1 : bs[1]? = some (.int .i64 p)) (e2 : bs[23]? = some (.slice Ab m cb)) (e4 : bs[25]? = some (.slice Ag mg cg))
    (g : GSt w base B2 124 2 78 m cb Ab ps css (MarkR (mkD p) id0 m) K t mg cg Ag F) (t1 : t ≤ 70) (K1 : K ≤ 1000000) (m1 : m ≤ 900000) (h0 : id0 ≤ 1000000) (hb : base ≤ w.heap.size) (hB : B2 ≤ w.heap.size) (p0 : 0 ≤ p) (p1 : p ≤ 1) :
    Calls Tryz.prog 162 #[.pointer (some ⟨gk, 0, none⟩), .int .i64 (id0 : Int), .int .i64 (t : Int)] w (GrOut gk base B2 124 2 78 m cb id0 K t 25 Ab ps css (MarkR (mkD p) id0 m) bs F w) := by
  rcases g.now with ⟨rfl, rfl, rfl, rfl, gr, hm, hl⟩ | ⟨ht, rfl, qs, zss, rg, gr, hm, hl, fq, fg⟩
  · refine (kidsGrow_firstF F gk base B2 m cb id0 K p Ab ps bs css w hk e1 e2 e4 g.ra g.ab gr hm hl (by omega) m1 h0 hb hB p0 p1 g.fp).mono ?_
    rintro e w' ⟨qs, zss, Ag, cg, rfl, bk, ra, rg, gr, hm, hl, hc, ha, ou⟩
    exact GrOut.mk1 g.ab g.fl g.fp g.fa bk ra rg gr hm.out hl.out hc (fun g q => Or.inr (ha g q)) ou
  · rcases Nat.eq_zero_or_pos mg with q | q
    · subst q
      refine (kidsGrow_zeroF gk cb id0 t Ab w (OC.cell hk 23 _ e2)).mono ?_
      rintro e w' ⟨rfl, rfl⟩
      refine ⟨Ag, cg, F, rfl, ⟨g.ra, g.ab, g.fl, g.fp, g.fa, Or.inr ⟨Nat.succ_pos t, rfl, qs, zss, rg, gr, hm, fun zs h => Nat.le_trans (hl zs h) (Nat.mul_le_mul_right _ (by omega)), fq, fg⟩⟩, by rw [set_self e4]; exact hk, fun g q => Or.inl q, Out.refl _ _⟩
    · obtain ⟨gg, rfl, hgg, og⟩ : ∃ gg, Ag = some ⟨gg, 0, none⟩ ∧ B2 ≤ gg ∧ OC w 78 1 gg mg cg (qs.map sv) := by
        rcases rg.oc with ⟨_, z, _⟩ | z
        · omega
        · exact z
      have hpm : ps.length = mg := by have := g.ra.1; simpa using this
      have hq : qs.take mg = qs := List.take_of_length_le (by rw [gr.lq, hpm]; exact Nat.le_refl _)
      refine (kidsGrow_moreF F gk base B2 gg mg cb cg id0 (K + t) p (t : Int) Ab ps bs qs css zss w (beq_eq_false_iff_ne.2 (by omega)) hk e1 e2 e4 g.ra g.ab (by rw [hq]; exact og) hgg gr hm hl (by omega) (by omega) h0 hb hB p0 p1 fq (fg _ ⟨_, rfl, rfl⟩)).mono ?_
      rintro e w' ⟨qs', zss', rfl, bk, ra, rg, gr, hm, hl, hc, ou⟩
      refine GrOut.mk1 g.ab g.fl g.fp g.fa (by rw [set_self e4]; exact bk) ra (GC.of rg hgg) gr hm.out hl.out hc (fun k q => Or.inl (fg k q)) ?_
      exact ⟨ou.os, ou.tape, ou.output, ou.size, fun k hk hd => ou.block k hk (fun q => hd (Or.inr q))⟩
end Go.Proofs.YtmeakhiiebeneaaGreatDoor
