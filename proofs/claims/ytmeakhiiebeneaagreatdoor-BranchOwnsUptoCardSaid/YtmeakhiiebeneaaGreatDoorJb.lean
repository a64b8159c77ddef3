/- coppicekept.Book.bytesGrow, told by the blocks that may be written; one turn. -/
import Derived.Test.YtmeakhiiebeneaaGreatDoorN1
import Derived.Test.YtmeakhiiebeneaaGreatDoorKd
namespace Go.Proofs.YtmeakhiiebeneaaGreatDoor
open Go.RowKit

def GrowOutF (F : Nat → Prop) (gk base B2 gg m cb cg id0 K : Nat) (p : Int) (Ab : Option Addr) (ps : List Slot) (bs : List Value) (css : List (List Value)) (w : World) (e : Ending) (w' : World) : Prop :=
  ∃ (qs : List Slot) (zss' : List (List Value)), e = .returned (.int .i64 ((id0 + m : Nat) : Int)) ∧ Bk w' gk bs ∧ GC w' base 40 1 Ab m cb (ps.map sv) ∧ OC w' 40 1 gg m cg ((qs.take m).map sv) ∧ GR w' base 5 1 B2 ps qs css zss' ∧ Hid (MarkedB p id0 m zss') ∧ Hid (∀ zs ∈ zss', zs.length ≤ K + 1) ∧ Cov F w.heap.size qs ∧ Out F w w'
theorem GR.nF {w : World} {base e sz B2 : Nat} {ps qs : List Slot} {css zss : List (List Value)} (h : GR w base e sz B2 ps qs css zss) {m : Nat} (hm : ps.length = m) : qs.length = m ∧ zss.length = m := ⟨by rw [h.lq, hm], by rw [h.lz, hm]⟩

set_option maxRecDepth 100000 in
set_option maxHeartbeats 8000000 in
theorem bytesGrow_moreF (F : Nat → Prop) (gk base B2 gg m cb cg id0 K : Nat) (p t : Int) (Ab : Option Addr) (ps : List Slot) (bs : List Value) (qs0 : List Slot) (css zss : List (List Value)) (w : World) (ht : (t == 0) = false) (hk : Bk w gk bs) (e1 : bs[1]? = some (.int .i64 p)) (e2 : bs[2]? = some (.slice Ab m cb)) (e4 : bs[4]? = some (.slice (some ⟨gg, 0, none⟩) m cg))
    (ra : GC w base 40 1 Ab m cb (ps.map sv)) (hab : ∀ a, Ab = some a → a.block < B2) (rg : OC w 40 1 gg m cg ((qs0.take m).map sv)) (hgg : B2 ≤ gg) (gr : GR w base 5 1 B2 ps qs0 css zss) (hm : MarkedB p id0 m zss) (hK : ∀ zs ∈ zss, zs.length ≤ K) (K1 : K ≤ 2000000) (m1 : m ≤ 1000000) (h0 : id0 ≤ 1000000) (hb : base ≤ w.heap.size) (hB : B2 ≤ w.heap.size) (hFq : ∀ g, InPs qs0 g → F g) (hFg : F gg) :
    Calls Tryz.prog 155 #[.pointer (some ⟨gk, 0, none⟩), .int .i64 (id0 : Int), .int .i64 t] w (GrowOutF F gk base B2 gg m cb cg id0 K p Ab ps bs css w) := by
  have HPS : Hid (ps.length = m) := hideIt (by have := ra.1; simpa using this)
  have HAB := hideIt hab
  have HGG := hideIt hgg
  have E1 := hideIt e1
  have E2 := hideIt e2
  have E4 := hideIt e4
  have HM0 := hideIt hm
  have HL0 := hideIt (LenB.start hK)
  have HB1 := hideIt hb
  have HB2 := hideIt hB
  have HC0 : Hid (Cov F w.heap.size qs0) := hideIt fun g q => Or.inl (hFq g q)
  have HFG := hideIt hFg
  clear hFq hFg hab hgg e1 e2 e4 hm hK hb hB
  go_enter Tryz.func155, Tryz.ntmps155
  go_wp2
  go_loopw [1, 7] (fun dd ii wr => ∃ (i id : Nat) (qs : List Slot) (zss' : List (List Value)), i ≤ m ∧ Hid (id = id0 + i) ∧ dd = .int .i64 (id : Int) ∧ ii = .int .i64 (i : Int) ∧ Bk wr gk bs ∧ GC wr base 40 1 Ab m cb (ps.map sv) ∧ OC wr 40 1 gg m cg ((qs.take m).map sv) ∧ GR wr base 5 1 B2 ps qs css zss' ∧ Hid (MarkedB p id0 m zss') ∧ Hid (LenB K i zss') ∧ Hid (Cov F w.heap.size qs) ∧ Out F w wr)
    (fun _ ii _ => m - (intOf ii).toNat)
  case atStart => exact ⟨0, id0, qs0, zss, by omega, hideIt rfl, rfl, rfl, hk, ra, rg, gr, HM0, HL0, HC0, Out.refl _ _⟩
  case round =>
    clear hk ra rg gr HM0 HL0 HC0
    obtain ⟨i, id, qs, zss', hi, HI, rfl, rfl, bk, ra, rg, gr, HM, HLN, HC, ou⟩ := hrel
    have c2 := OC.cell bk 2 _ E2.out
    by_cases hlt : i < m
    · have i1 : (i : Int) < (m : Int) := by omega
      have idl : id ≤ 2000000 := by rw [HI.out]; omega
      have HI2 : Hid (id + 1 = id0 + (i + 1)) := hideIt (by rw [HI.out]; omega)
      go_upto_region 7 with fail
      obtain ⟨⟨A1, n1, k1⟩, hq⟩ : ∃ q, qs[i]? = some q := ⟨_, List.getElem?_eq_getElem (by rw [(gr.nF HPS.out).1]; exact hlt)⟩
      obtain ⟨zs, hz⟩ : ∃ zs, zss'[i]? = some zs := ⟨_, List.getElem?_eq_getElem (by rw [(gr.nF HPS.out).2]; exact hlt)⟩
      have own : GC wr base 5 1 A1 n1 k1 zs := by
        obtain ⟨p', q', cs', zs', g1, g2, g3, g4, f⟩ := gr.zat i (by rw [HPS.out]; exact hlt)
        rw [hq] at g2; cases g2
        rw [hz] at g4; cases g4
        exact f.own
      have zl : zs.length = n1 := by have := own.len; omega
      have n1l : n1 ≤ K := by rw [← zl]; exact (HLN.out i zs hz).2 (Nat.le_refl _)
      have cr := OC.cell rg i (.slice A1 n1 k1) (by rw [List.getElem?_map, List.getElem?_take, if_pos hlt, hq]; rfl)
      have cp := OC.cell bk 1 _ E1.out
      have c4 := OC.cell bk 4 _ E4.out
      obtain ⟨mk, hmk⟩ : ∃ mk, mkB p (id + 1) n1 = mk := ⟨_, rfl⟩
      have MK := bytesMark_of gk p ((id : Int) + 1) (id + 1) n1 wr cp (by omega) (by omega) (by omega)
      rw [hmk] at MK
      have HMK : Hid (MarkedB p id0 m (zss'.set i (zs ++ [.int .u8 (mk.toNat : Int)]))) := hideIt (HM.out.grow hlt hz mk (by rw [zl, ← HI.out]; exact hmk))
      have HLN2 : Hid (LenB K (i + 1) (zss'.set i (zs ++ [.int .u8 (mk.toNat : Int)]))) := hideIt (HLN.out.step hz)
      have HQ := hideIt hq
      have HZ := hideIt hz
      have ig : (i : Int) < (m : Int) := by have := hlt; omega
      clear hmk hq hz zl
      go_upto_region 8 with (go_at_call 193; refine MK.mono ?_; rintro en wx ⟨rfl, rfl⟩)
      have ba := below1 wr.drew (.cells #[.int .u8 (mk.toNat : Int)] 5)
      have bd := blw_step (drew1 wr) ba
      have bk1 := Bk.below bk bd
      have ra1 := GC.below ra bd
      have rg1 := OC.below rg bd
      have gr1 := gr.below bd
      have own1 := GC.below own bd
      have ou1 := ou.step bd
      have R1 := u8_one wr.drew mk
      have zb1 := Nat.le_trans HB1.out ou1.size
      have zb2 := Nat.le_trans HB2.out ou1.size
      clear MK bk ra rg gr own ou bd ba cp
      have crd : wr.drew.cell? ⟨gg, i, none⟩ = some (.slice A1 n1 k1) := cr
      have c4d : wr.drew.cell? ⟨gk, 4, none⟩ = some (.slice (some ⟨gg, 0, none⟩) m cg) := c4
      have c41 := OC.cell bk1 4 _ E4.out
      have cr1 := OC.cell rg1 i (.slice A1 n1 k1) (by rw [List.getElem?_map, List.getElem?_take, if_pos hlt, HQ.out]; rfl)
      have c41a : (wr.alloc (.cells #[.int .u8 (mk.toNat : Int)] 5)).cell? ⟨gk, 4, none⟩ = some (.slice (some ⟨gg, 0, none⟩) m cg) := c41
      have cr1a : (wr.alloc (.cells #[.int .u8 (mk.toNat : Int)] 5)).cell? ⟨gg, i, none⟩ = some (.slice A1 n1 k1) := cr1
      go_region_law
        (first
          | (refine stepU_app rfl (.tmp 60) (.tmp 62) rfl base _ _ _ _ rfl own1 _ (.int .u8 (mk.toNat : Int)) rfl R1 rfl (by omega) ?_; intro g3 c3 w3 q3 o3; have st := grow_stepF (by decide) (by decide) (by decide) bk1 ra1 HAB.out rg1 HGG.out gr1 HQ.out HZ.out q3 o3 zb1 zb2; have c43 := OC.cell st.1.1 4 _ E4.out; have cr3 := OC.cell st.1.2 i (.slice A1 n1 k1) (by rw [List.getElem?_map, List.getElem?_take, if_pos hlt, HQ.out]; rfl); have fr3 := OC.free st.1.2 i; have c45 := OC.cell st.2.1 4 _ E4.out))
      all_goals
        obtain ⟨-, bk4, ra4, rg4, gr4, ou4⟩ := st
        have HC2 : Hid (Cov F w.heap.size (qs.set i (some ⟨g3, 0, none⟩, n1 + 1, c3))) := hideIt (HC.out.set fun g hg => by
          obtain ⟨a, ea, eg⟩ := hg
          cases ea
          rcases q3 with ⟨g', e', q', _, _⟩ | ⟨q', _⟩
          · exact HC.out g ⟨_, List.mem_of_getElem? HQ.out, _, e', by rw [← eg]; exact q'.symm⟩
          · exact Or.inr (by have e3 : g3 = g := eg; exact e3 ▸ Nat.le_trans ou1.size q'))
        have ou5 := ou1.trans ou4 (fun g q => by
          rcases q with q | rfl
          · exact HC.out g q
          · exact Or.inl HFG.out)
        go_wp2
        go_roundw
        case rel => exact ⟨i + 1, id + 1, _, _, by omega, HI2, by go_num, by go_num, bk4, ra4, rg4, gr4, HMK, HLN2, HC2, ou5⟩
        case measure => simp [intOf]; omega
    · obtain rfl : m = i := by omega
      have E : Hid (Ending.returned (.int .i64 (id : Int)) = .returned (.int .i64 ((id0 + m : Nat) : Int))) := hideIt (by rw [HI.out])
      go_wp2
      go_ret
      exact ⟨qs, zss', E.out, bk, ra, rg, gr, HM, hideIt HLN.out.done, HC.out, ou⟩

def RowedF (F : Nat → Prop) (gk base B2 m cb i : Nat) (Ab Ag : Option Addr) (ps qs : List Slot) (bs : List Value) (css zss : List (List Value)) (w wx : World) : Prop :=
  ∃ g5 c5, B2 ≤ g5 ∧ Bk wx gk (bs.set 4 (.slice (some ⟨g5, 0, none⟩) (i + 1) c5)) ∧ GC wx base 40 1 Ab m cb (ps.map sv) ∧ OC wx 40 1 g5 (i + 1) c5 ((qs.take (i + 1)).map sv) ∧ GR wx base 5 1 B2 ps qs css zss ∧ Out (fun g => g = gk ∨ F g) w wx ∧ Hid ((∃ a, Ag = some a ∧ g5 = a.block) ∨ w.heap.size ≤ g5)
def GrowOut0F (F : Nat → Prop) (gk base B2 m cb id0 K : Nat) (p : Int) (Ab : Option Addr) (ps : List Slot) (bs : List Value) (css : List (List Value)) (w : World) (e : Ending) (w' : World) : Prop :=
  ∃ (qs : List Slot) (zss' : List (List Value)) (Ag : Option Addr) (cg : Nat), e = .returned (.int .i64 ((id0 + m : Nat) : Int)) ∧ Bk w' gk (bs.set 4 (.slice Ag m cg)) ∧ GC w' base 40 1 Ab m cb (ps.map sv) ∧ GC w' B2 40 1 Ag m cg ((qs.take m).map sv) ∧ GR w' base 5 1 B2 ps qs css zss' ∧ Hid (MarkedB p id0 m zss') ∧ Hid (∀ zs ∈ zss', zs.length ≤ K + 1) ∧ Cov F w.heap.size qs ∧ (∀ g, AtB Ag g → w.heap.size ≤ g) ∧ Out (fun g => g = gk ∨ F g) w w'
set_option maxRecDepth 100000 in
set_option maxHeartbeats 8000000 in
theorem bytesGrow_firstF (F : Nat → Prop) (gk base B2 m cb id0 K : Nat) (p : Int) (Ab : Option Addr) (ps : List Slot) (bs : List Value) (css : List (List Value)) (w : World) (hk : Bk w gk bs) (e1 : bs[1]? = some (.int .i64 p)) (e2 : bs[2]? = some (.slice Ab m cb)) (e4 : bs[4]? = some (.slice none 0 0))
    (ra : GC w base 40 1 Ab m cb (ps.map sv)) (hab : ∀ a, Ab = some a → a.block < B2) (gr : GR w base 5 1 B2 ps ps css css) (hm : MarkedB p id0 m css) (hK : ∀ zs ∈ css, zs.length ≤ K) (K1 : K ≤ 2000000) (m1 : m ≤ 900000) (h0 : id0 ≤ 1000000) (hb : base ≤ w.heap.size) (hB : B2 ≤ w.heap.size) (hFq : ∀ g, InPs ps g → F g) :
    Calls Tryz.prog 155 #[.pointer (some ⟨gk, 0, none⟩), .int .i64 (id0 : Int), .int .i64 0] w (GrowOut0F F gk base B2 m cb id0 K p Ab ps bs css w) := by
  have HPS : Hid (ps.length = m) := hideIt (by have := ra.1; simpa using this)
  have HAB := hideIt hab
  have E1 := hideIt e1
  have E2 := hideIt e2
  have hk0 : Bk w gk (bs.set 4 (.slice none 0 0)) := by rw [set_self e4]; exact hk
  have HLB : Hid (4 < bs.length) := hideIt (List.getElem?_eq_some_iff.1 e4).1
  have HM0 := hideIt hm
  have HL0 := hideIt (LenB.start hK)
  have HB1 := hideIt hb
  have HB2 := hideIt hB
  have HC0 : Hid (Cov F w.heap.size ps) := hideIt fun g q => Or.inl (hFq g q)
  clear hFq hab e1 e2 e4 hm hK hb hB hk
  go_enter Tryz.func155, Tryz.ntmps155
  go_wp2
  go_loopw [1, 7] (fun dd ii wr => ∃ (i id : Nat) (qs : List Slot) (zss' : List (List Value)) (Ag : Option Addr) (cg : Nat), i ≤ m ∧ Hid (id = id0 + i) ∧ dd = .int .i64 (id : Int) ∧ ii = .int .i64 (i : Int) ∧ Bk wr gk (bs.set 4 (.slice Ag i cg)) ∧ GC wr base 40 1 Ab m cb (ps.map sv) ∧ GC wr B2 40 1 Ag i cg ((qs.take i).map sv) ∧ GR wr base 5 1 B2 ps qs css zss' ∧ Hid (MarkedB p id0 m zss') ∧ Hid (LenB K i zss') ∧ Hid (∀ j, i ≤ j → qs[j]? = ps[j]?) ∧ Hid (Cov F w.heap.size qs ∧ ∀ g, AtB Ag g → w.heap.size ≤ g) ∧ Out (fun g => g = gk ∨ F g) w wr)
    (fun _ ii _ => m - (intOf ii).toNat)
  case atStart => exact ⟨0, id0, ps, css, none, 0, by omega, hideIt rfl, rfl, rfl, hk0, ra, GC.nil _ _ _ _, gr, HM0, HL0, hideIt (fun _ _ => rfl), hideIt ⟨HC0.out, fun g q => by obtain ⟨a, e, _⟩ := q; cases e⟩, Out.refl _ _⟩
  case round =>
    clear hk0 ra gr HM0 HL0 HC0
    obtain ⟨i, id, qs, zss', Ag, cg, hi, HI, rfl, rfl, bk0, ra0, rg0, gr0, HM, HLN, HV, HC, ou0⟩ := hrel
    have c2 := OC.cell bk0 2 _ (by rw [List.getElem?_set, if_neg (by decide)]; exact E2.out)
    have c4 := OC.cell bk0 4 (.slice Ag i cg) (List.getElem?_set_self HLB.out)
    by_cases hlt : i < m
    · have i1 : (i : Int) < (m : Int) := by omega
      have idl : id ≤ 2000000 := by rw [HI.out]; omega
      have HI2 : Hid (id + 1 = id0 + (i + 1)) := hideIt (by rw [HI.out]; omega)
      obtain ⟨⟨B1, l1, d1⟩, hP⟩ : ∃ q, ps[i]? = some q := ⟨_, List.getElem?_eq_getElem (by rw [HPS.out]; exact hlt)⟩
      have hQ : qs[i]? = some (B1, l1, d1) := (HV.out i (Nat.le_refl _)).trans hP
      rcases ra0.oc with ⟨_, z, _⟩ | ⟨ga, rfl, _, oa⟩
      · omega
      have cra := OC.cell oa i (.slice B1 l1 d1) (by rw [List.getElem?_map, hP]; rfl)
      go_upto_region 6 with fail
      have HQ := hideIt hQ
      have HP := hideIt hP
      clear hQ hP
      go_cut [] from 22 to 37 (fun wx => RowedF F gk base B2 m cb i (some ⟨ga, 0, none⟩) Ag ps qs bs css zss' w wx)
      case first =>
        have ba := below1 wr.drew (.cells #[.slice B1 l1 d1] 40)
        have bd := blw_step (drew1 wr) ba
        have bk1 := Bk.below bk0 bd
        have ra1 := GC.below ra0 bd
        have rg1 := GC.below rg0 bd
        have gr1 := gr0.below bd
        have ou1 := ou0.step bd
        have R1 := sv_cell wr.drew (B1, l1, d1)
        have zb2 := Nat.le_trans HB2.out ou1.size
        have c21 := OC.cell bk1 2 (.slice (some ⟨ga, 0, none⟩) m cb) (by rw [List.getElem?_set, if_neg (by decide)]; exact E2.out)
        have c41 := OC.cell bk1 4 (.slice Ag i cg) (List.getElem?_set_self HLB.out)
        have cr1 := ra1.cell i (.slice B1 l1 d1) (by rw [List.getElem?_map, HP.out]; rfl)
        have c21a : (wr.alloc (.cells #[.slice B1 l1 d1] 40)).cell? ⟨gk, 2, none⟩ = some (.slice (some ⟨ga, 0, none⟩) m cb) := c21
        have c41a : (wr.alloc (.cells #[.slice B1 l1 d1] 40)).cell? ⟨gk, 4, none⟩ = some (.slice Ag i cg) := c41
        have cr1a : (wr.alloc (.cells #[.slice B1 l1 d1] 40)).cell? ⟨ga, i, none⟩ = some (.slice B1 l1 d1) := cr1
        clear bk0 ra0 rg0 gr0 ou0 oa ba bd
        go_region_law
          (first
            | (refine stepMx_app rfl (.tmp 26) (.tmp 34) rfl B2 _ _ _ _ rfl rg1 _ (B1, l1, d1) rfl R1 (by omega) zb2 ?_; intro g5 c5 w5 q5 Q5 o5 k5; have st6 := row_stepF (F := 4) (by decide) (by decide) (by decide) bk1 ra1 HAB.out rg1 gr1 HQ.out k5 o5 q5; have f5 := OC.free st6.1.1 4; have c45 := OC.cell st6.1.1 4 (.slice Ag i cg) (List.getElem?_set_self HLB.out); have c25 := OC.cell st6.1.1 2 (.slice (some ⟨ga, 0, none⟩) m cb) (by rw [List.getElem?_set, if_neg (by decide)]; exact E2.out); have cr5 := st6.1.2.cell i (.slice B1 l1 d1) (by rw [List.getElem?_map, HP.out]; rfl)))
        all_goals
          go_wp2
          go_meet
          obtain ⟨-, bk, ra, rg, gr, ou6⟩ := st6
          rw [List.set_set] at bk
          exact ⟨g5, c5, q5, bk, ra, rg, gr, ou1.trans ou6 (fun g q => by
            rcases q with q | q
            · exact Or.inl (Or.inl q)
            · exact Or.inr (HC.out.2 g q)), hideIt (by
            rcases Q5 with q | q
            · exact Or.inl q
            · exact Or.inr (Nat.le_trans ou1.size q))⟩
      case rest =>
        obtain ⟨g5, c5, q5, bk, ra, rg, gr, ou, HR5⟩ := hcut
        have HGG := hideIt q5
        clear bk0 ra0 rg0 gr0 ou0 oa c2 c4 cra q5
        have X1 : Hid ((bs.set 4 (.slice (some ⟨g5, 0, none⟩) (i + 1) c5))[1]? = some (.int .i64 p)) := hideIt (by rw [List.getElem?_set, if_neg (by decide)]; exact E1.out)
        have X4 : Hid ((bs.set 4 (.slice (some ⟨g5, 0, none⟩) (i + 1) c5))[4]? = some (.slice (some ⟨g5, 0, none⟩) (i + 1) c5)) := hideIt (List.getElem?_set_self HLB.out)
        have hii : i < i + 1 := Nat.lt_succ_self i
        have ig1 : (i : Int) < (i : Int) + 1 := by omega
        obtain ⟨⟨A1, n1, k1⟩, hq⟩ : ∃ q, qs[i]? = some q := ⟨_, List.getElem?_eq_getElem (by rw [(gr.nF HPS.out).1]; exact hlt)⟩
        obtain ⟨zs, hz⟩ : ∃ zs, zss'[i]? = some zs := ⟨_, List.getElem?_eq_getElem (by rw [(gr.nF HPS.out).2]; exact hlt)⟩
        have own : GC wc base 5 1 A1 n1 k1 zs := by
          obtain ⟨p', q', cs', zs', g1, g2, g3, g4, f⟩ := gr.zat i (by rw [HPS.out]; exact hlt)
          rw [hq] at g2; cases g2
          rw [hz] at g4; cases g4
          exact f.own
        have zl : zs.length = n1 := by have := own.len; omega
        have n1l : n1 ≤ K := by rw [← zl]; exact (HLN.out i zs hz).2 (Nat.le_refl _)
        have cr := OC.cell rg i (.slice A1 n1 k1) (by rw [List.getElem?_map, List.getElem?_take, if_pos hii, hq]; rfl)
        have cp := OC.cell bk 1 _ X1.out
        have c4 := OC.cell bk 4 _ X4.out
        obtain ⟨mk, hmk⟩ : ∃ mk, mkB p (id + 1) n1 = mk := ⟨_, rfl⟩
        have MK := bytesMark_of gk p ((id : Int) + 1) (id + 1) n1 wc cp (by omega) (by omega) (by omega)
        rw [hmk] at MK
        have HMK : Hid (MarkedB p id0 m (zss'.set i (zs ++ [.int .u8 (mk.toNat : Int)]))) := hideIt (HM.out.grow hlt hz mk (by rw [zl, ← HI.out]; exact hmk))
        have HLN2 : Hid (LenB K (i + 1) (zss'.set i (zs ++ [.int .u8 (mk.toNat : Int)]))) := hideIt (HLN.out.step hz)
        have HQ := hideIt hq
        have HZ := hideIt hz
        have ig : (i : Int) < ((i : Int) + 1) := by have := hii; omega
        clear hmk hq hz zl
        go_upto_region 8 with (go_at_call 193; refine MK.mono ?_; rintro en wx ⟨rfl, rfl⟩)
        have ba := below1 wc.drew (.cells #[.int .u8 (mk.toNat : Int)] 5)
        have bd := blw_step (drew1 wc) ba
        have bk1 := Bk.below bk bd
        have ra1 := GC.below ra bd
        have rg1 := OC.below rg bd
        have gr1 := gr.below bd
        have own1 := GC.below own bd
        have ou1 := ou.step bd
        have R1 := u8_one wc.drew mk
        have zb1 := Nat.le_trans HB1.out ou1.size
        have zb2 := Nat.le_trans HB2.out ou1.size
        clear MK bk ra rg gr own ou bd ba cp
        have crd : wc.drew.cell? ⟨g5, i, none⟩ = some (.slice A1 n1 k1) := cr
        have c4d : wc.drew.cell? ⟨gk, 4, none⟩ = some (.slice (some ⟨g5, 0, none⟩) (i + 1) c5) := c4
        have c41 := OC.cell bk1 4 _ X4.out
        have cr1 := OC.cell rg1 i (.slice A1 n1 k1) (by rw [List.getElem?_map, List.getElem?_take, if_pos hii, HQ.out]; rfl)
        have c41a : (wc.alloc (.cells #[.int .u8 (mk.toNat : Int)] 5)).cell? ⟨gk, 4, none⟩ = some (.slice (some ⟨g5, 0, none⟩) (i + 1) c5) := c41
        have cr1a : (wc.alloc (.cells #[.int .u8 (mk.toNat : Int)] 5)).cell? ⟨g5, i, none⟩ = some (.slice A1 n1 k1) := cr1
        go_region_law
          (first
            | (refine stepU_app rfl (.tmp 60) (.tmp 62) rfl base _ _ _ _ rfl own1 _ (.int .u8 (mk.toNat : Int)) rfl R1 rfl (by omega) ?_; intro g3 c3 w3 q3 o3; have st := grow_stepF (by decide) (by decide) (by decide) bk1 ra1 HAB.out rg1 HGG.out gr1 HQ.out HZ.out q3 o3 zb1 zb2; have c43 := OC.cell st.1.1 4 _ X4.out; have cr3 := OC.cell st.1.2 i (.slice A1 n1 k1) (by rw [List.getElem?_map, List.getElem?_take, if_pos hii, HQ.out]; rfl); have fr3 := OC.free st.1.2 i; have c45 := OC.cell st.2.1 4 _ X4.out))
        all_goals
          obtain ⟨-, bk4, ra4, rg4, gr4, ou4⟩ := st
          have HC2 : Hid (Cov F w.heap.size (qs.set i (some ⟨g3, 0, none⟩, n1 + 1, c3))) := hideIt (HC.out.1.set fun g hg => by
            obtain ⟨a, ea, eg⟩ := hg
            cases ea
            rcases q3 with ⟨g', e', q', _, _⟩ | ⟨q', _⟩
            · exact HC.out.1 g ⟨_, List.mem_of_getElem? HQ.out, _, e', by rw [← eg]; exact q'.symm⟩
            · exact Or.inr (by have e3 : g3 = g := eg; exact e3 ▸ Nat.le_trans ou1.size q'))
          have HN5 : Hid (w.heap.size ≤ g5) := hideIt (by
            rcases HR5.out with ⟨a, ea, eb⟩ | q
            · rw [eb]; exact HC.out.2 a.block ⟨a, ea, rfl⟩
            · exact q)
          have ou5 := ou1.trans ou4 (fun g q => by
            rcases q with q | rfl
            · rcases HC.out.1 g q with z | z
              · exact Or.inl (Or.inr z)
              · exact Or.inr z
            · exact Or.inr HN5.out)
          have HV2 : Hid (∀ j, i + 1 ≤ j → (qs.set i (some ⟨g3, 0, none⟩, n1 + 1, c3))[j]? = ps[j]?) := hideIt fun j hj => by
            rw [List.getElem?_set, if_neg (by omega)]; exact HV.out j (by omega)
          go_wp2
          go_roundw
          case rel => exact ⟨i + 1, id + 1, _, _, some ⟨g5, 0, none⟩, c5, by omega, HI2, by go_num, by go_num, bk4, ra4, GC.of rg4 HGG.out, gr4, HMK, HLN2, HV2, hideIt ⟨HC2.out, fun g q => by obtain ⟨a, e, q⟩ := q; cases e; exact q ▸ HN5.out⟩, ou5⟩
          case measure => simp [intOf]; omega
    · obtain rfl : m = i := by omega
      have E : Hid (Ending.returned (.int .i64 (id : Int)) = .returned (.int .i64 ((id0 + m : Nat) : Int))) := hideIt (by rw [HI.out])
      go_wp2
      go_ret
      exact ⟨qs, zss', Ag, cg, E.out, bk0, ra0, rg0, gr0, HM, hideIt HLN.out.done, HC.out.1, HC.out.2, ou0⟩

def GrOut (gk base B2 e sz rt m cb id0 K t F4 : Nat) (Ab : Option Addr) (ps : List Slot) (css : List (List Value)) (M : List (List Value) → Prop) (bs : List Value) (F : Nat → Prop) (w : World) (en : Ending) (w' : World) : Prop :=
  ∃ (Ag : Option Addr) (cg : Nat) (F' : Nat → Prop), en = .returned (.int .i64 ((id0 + m : Nat) : Int)) ∧ GSt w' base B2 e sz rt m cb Ab ps css M K (t + 1) m cg Ag F' ∧ Bk w' gk (bs.set F4 (.slice Ag m cg)) ∧ (∀ g, F' g → F g ∨ w.heap.size ≤ g) ∧ Out (fun g => g = gk ∨ F g) w w'
theorem GrOut.mk1 {gk base B2 e sz rt m cb id0 K t F4 : Nat} {Ab : Option Addr} {ps : List Slot} {css : List (List Value)} {M : List (List Value) → Prop} {bs : List Value} {F : Nat → Prop} {w w' : World} {Ag : Option Addr} {cg : Nat} {qs : List Slot} {zss : List (List Value)}
    (ab : ∀ a, Ab = some a → a.block < B2) (fl : ∀ g, F g → g < w.heap.size) (fp : ∀ g, InPs ps g → F g) (fa : ∀ g, AtB Ab g → F g) (bk : Bk w' gk (bs.set F4 (.slice Ag m cg))) (ra : GC w' base rt 1 Ab m cb (ps.map sv)) (rg : GC w' B2 rt 1 Ag m cg ((qs.take m).map sv)) (gr : GR w' base e sz B2 ps qs css zss) (hm : M zss) (hl : ∀ zs ∈ zss, zs.length ≤ (K + (t + 1)) * sz) (hc : Cov F w.heap.size qs) (hag : ∀ g, AtB Ag g → F g ∨ w.heap.size ≤ g) (ou : Out (fun g => g = gk ∨ F g) w w') :
    GrOut gk base B2 e sz rt m cb id0 K t F4 Ab ps css M bs F w (.returned (.int .i64 ((id0 + m : Nat) : Int))) w' := by
  have hpm : ps.length = m := by have := ra.1; simpa using this
  have hq : qs.take m = qs := List.take_of_length_le (by rw [gr.lq, hpm]; exact Nat.le_refl _)
  rw [hq] at rg
  refine ⟨Ag, cg, fun g => F g ∨ InPs qs g ∨ AtB Ag g, rfl, ⟨ra, ab, ?_, fun g q => Or.inl (fp g q), fun g q => Or.inl (fa g q), Or.inr ⟨Nat.succ_pos t, rfl, qs, zss, rg, gr, hm, hl, fun g q => Or.inr (Or.inl q), fun g q => Or.inr (Or.inr q)⟩⟩, bk, ?_, ou⟩
  · rintro g (q | q | q)
    · exact Nat.lt_of_lt_of_le (fl g q) ou.size
    · obtain ⟨p, hp, a, ha, rfl⟩ := q
      obtain ⟨j, hj⟩ := List.getElem?_of_mem hp
      obtain ⟨p0, h0⟩ : ∃ p0, ps[j]? = some p0 := ⟨_, List.getElem?_eq_getElem (by rw [← gr.lq]; exact (List.getElem?_eq_some_iff.1 hj).1)⟩
      exact (gr.lt j p0 p h0 hj a (Or.inr ha)).1
    · obtain ⟨a, ha, rfl⟩ := q
      exact (rg.lt a ha).1
  · rintro g (q | q | q)
    · exact Or.inl q
    · exact hc g q
    · exact hag g q
set_option maxHeartbeats 1000000 in
theorem bytesGrow_zeroF (gk cb : Nat) (z t : Int) (Ab : Option Addr) (w : World) (c2 : w.cell? ⟨gk, 2, none⟩ = some (.slice Ab 0 cb)) :
    Calls Tryz.prog 155 #[.pointer (some ⟨gk, 0, none⟩), .int .i64 z, .int .i64 t] w fun e w' => e = .returned (.int .i64 z) ∧ w = w' := by
  go_enter Tryz.func155, Tryz.ntmps155
  go_wp2
  go_loop [1, 7] (fun d i => d = .int .i64 z ∧ i = .int .i64 0) (fun _ _ => 0)
  case atStart => exact ⟨rfl, rfl⟩
  case round =>
    obtain ⟨rfl, rfl⟩ := hrel
    go_wp2
    go_ret
    exact ⟨rfl, rfl⟩
/-- One turn, whichever it is. -/
theorem bytesGrow_t (gk base B2 m cb id0 K t mg cg : Nat) (p : Int) (Ab Ag : Option Addr) (ps : List Slot) (bs : List Value) (css : List (List Value)) (F : Nat → Prop) (w : World) (hk : Bk w gk bs) (e1 : bs[1]? = some (.int .i64 p)) (e2 : bs[2]? = some (.slice Ab m cb)) (e4 : bs[4]? = some (.slice Ag mg cg))
    (g : GSt w base B2 5 1 40 m cb Ab ps css (MarkedB p id0 m) K t mg cg Ag F) (t1 : t ≤ 70) (K1 : K ≤ 1000000) (m1 : m ≤ 900000) (h0 : id0 ≤ 1000000) (hb : base ≤ w.heap.size) (hB : B2 ≤ w.heap.size) :
    Calls Tryz.prog 155 #[.pointer (some ⟨gk, 0, none⟩), .int .i64 (id0 : Int), .int .i64 (t : Int)] w (GrOut gk base B2 5 1 40 m cb id0 K t 4 Ab ps css (MarkedB p id0 m) bs F w) := by
  rcases g.now with ⟨rfl, rfl, rfl, rfl, gr, hm, hl⟩ | ⟨ht, rfl, qs, zss, rg, gr, hm, hl, fq, fg⟩
  · refine (bytesGrow_firstF F gk base B2 m cb id0 K p Ab ps bs css w hk e1 e2 e4 g.ra g.ab gr hm (fun zs h => by have := hl zs h; omega) (by omega) m1 h0 hb hB g.fp).mono ?_
    rintro e w' ⟨qs, zss, Ag, cg, rfl, bk, ra, rg, gr, hm, hl, hc, ha, ou⟩
    exact GrOut.mk1 g.ab g.fl g.fp g.fa bk ra rg gr hm.out (fun zs h => by have := hl.out zs h; omega) hc (fun g q => Or.inr (ha g q)) ou
  · rcases Nat.eq_zero_or_pos mg with q | q
    · subst q
      refine (bytesGrow_zeroF gk cb id0 t Ab w (OC.cell hk 2 _ e2)).mono ?_
      rintro e w' ⟨rfl, rfl⟩
      refine ⟨Ag, cg, F, rfl, ⟨g.ra, g.ab, g.fl, g.fp, g.fa, Or.inr ⟨Nat.succ_pos t, rfl, qs, zss, rg, gr, hm, fun zs h => by have := hl zs h; omega, fq, fg⟩⟩, by rw [set_self e4]; exact hk, fun g q => Or.inl q, Out.refl _ _⟩
    · obtain ⟨gg, rfl, hgg, og⟩ : ∃ gg, Ag = some ⟨gg, 0, none⟩ ∧ B2 ≤ gg ∧ OC w 40 1 gg mg cg (qs.map sv) := by
        rcases rg.oc with ⟨_, z, _⟩ | z
        · omega
        · exact z
      have hpm : ps.length = mg := by have := g.ra.1; simpa using this
      have hq : qs.take mg = qs := List.take_of_length_le (by rw [gr.lq, hpm]; exact Nat.le_refl _)
      refine (bytesGrow_moreF F gk base B2 gg mg cb cg id0 (K + t) p (t : Int) Ab ps bs qs css zss w (beq_eq_false_iff_ne.2 (by omega)) hk e1 e2 e4 g.ra g.ab (by rw [hq]; exact og) hgg gr hm (fun zs h => by have := hl zs h; omega) (by omega) (by omega) h0 hb hB fq (fg _ ⟨_, rfl, rfl⟩)).mono ?_
      rintro e w' ⟨qs', zss', rfl, bk, ra, rg, gr, hm, hl, hc, ou⟩
      refine GrOut.mk1 g.ab g.fl g.fp g.fa (by rw [set_self e4]; exact bk) ra (GC.of rg hgg) gr hm.out (fun zs h => by have := hl.out zs h; omega) hc (fun k q => Or.inl (fg k q)) ?_
      exact ⟨ou.os, ou.tape, ou.output, ou.size, fun k hk hd => ou.block k hk (fun q => hd (Or.inr q))⟩
end Go.Proofs.YtmeakhiiebeneaaGreatDoor
