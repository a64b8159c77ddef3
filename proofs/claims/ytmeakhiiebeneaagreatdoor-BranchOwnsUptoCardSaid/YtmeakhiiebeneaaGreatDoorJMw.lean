/- coppicekept.Book.byteListsWrite, byteListsHold. -/
import Derived.Test.YtmeakhiiebeneaaGreatDoorN6
import Derived.Deep.CutRange
namespace Go.Proofs.YtmeakhiiebeneaaGreatDoor
open Go.RowKit

def WriteM (base m cb id0 gk : Nat) (p : Int) (Ab : Option Addr) (ps : List Slot) (bs : List Value) (w : World) (e : Ending) (w' : World) : Prop :=
  ∃ css', e = .returned (.int .i64 ((id0 + m : Nat) : Int)) ∧ LS w' base 40 1 25 Ab m cb ps css' ∧ MarkM w' (fun g => w.heap.size ≤ g) p id0 m css' ∧ Bk w' gk bs ∧ Out (InPs ps) w w'
theorem InPs.lo {w : World} {base e sz rt n c : Nat} {A : Option Addr} {ps : List Slot} {css : List (List Value)} (h : LS w base e sz rt A n c ps css) {g : Nat} (q : InPs ps g) : base ≤ g := by
  obtain ⟨p, hp, a, ha, rfl⟩ := q
  exact (h.lt p hp a ha).2
set_option maxRecDepth 100000 in
set_option maxHeartbeats 8000000 in
theorem byteListsWrite_calls (B gk base m cb id0 K : Nat) (p : Int) (Ab : Option Addr) (ps : List Slot) (bs : List Value) (css : List (List Value)) (w : World) (hk : Bk w gk bs) (tb : Tb B w) (hB : B ≤ w.heap.size) (hB2 : B ≤ base) (e1 : bs[1]? = some (.int .i64 p)) (e2 : bs[11]? = some (.slice Ab m cb)) (h : LS w base 40 1 25 Ab m cb ps css) (hs : ∀ cs ∈ css, cs.length ≤ K) (hm : m ≤ 1000000) (h0 : id0 ≤ 3000000) (p0 : 0 ≤ p) (p1 : p ≤ 1) (hK : K ≤ 1000000) :
    Calls Tryz.prog 132 #[.pointer (some ⟨gk, 0, none⟩), .int .i64 (id0 : Int)] w (WriteM base m cb id0 gk p Ab ps bs w) := by
  have HS := hideIt hs
  have E1 := hideIt e1
  have E2 := hideIt e2
  have HTB := hideIt tb
  have HLO := hideIt (show ∀ g, InPs ps g → B ≤ g from fun g q => Nat.le_trans hB2 (InPs.lo h q))
  have HB := hideIt hB
  clear hs e1 e2 tb hB hB2
  go_enter Tryz.func132, Tryz.ntmps132
  go_wp2
  go_loopw [1, 5] (fun dd ii wr => ∃ (i id : Nat) (css' : List (List Value)), i ≤ m ∧ Hid (id = id0 + i) ∧ dd = .int .i64 (id : Int) ∧ ii = .int .i64 (i : Int) ∧ LS wr base 40 1 25 Ab m cb ps css' ∧ Hid (∀ cs ∈ css', cs.length ≤ K) ∧ Hid (MarkM wr (fun g => w.heap.size ≤ g) p id0 i css') ∧ Bk wr gk bs ∧ Out (InPs ps) w wr)
    (fun _ ii _ => m - (intOf ii).toNat)
  case atStart => exact ⟨0, id0, css, by omega, hideIt rfl, rfl, rfl, h, HS, hideIt (fun j cs hj => by omega), hk, Out.refl _ _⟩
  case round =>
    clear HS h hk
    obtain ⟨i, id, css', hi, HI, rfl, rfl, ls, HS, HM, bk, bw⟩ := hrel
    have c1 := OC.cell bk 1 _ E1.out
    have c2 := OC.cell bk 11 _ E2.out
    by_cases hlt : i < m
    · obtain ⟨gr, q, cs, rfl, orow, hq, hc, cell, gc⟩ := ls.at_ i hlt
      obtain ⟨A1, n1, k1⟩ := q
      have cl : cs.length = n1 := by have := gc.len; simp only at this; omega
      have n1l : n1 ≤ 1000000 := by have h1 := HS.out cs (List.mem_of_getElem? hc); omega
      have HLEN : Hid (n1 ≤ K) := hideIt (by have h1 := HS.out cs (List.mem_of_getElem? hc); omega)
      have HQ := hideIt hq
      have i1 : (i : Int) < (m : Int) := by omega
      have idl : id ≤ 4000000 := by rw [HI.out]; omega
      obtain ⟨I, hI⟩ : ∃ I, id + 1 = I := ⟨_, rfl⟩
      have hIz : (id : Int) + 1 = (I : Int) := by omega
      have HI1 := hideIt hI
      have HIz := hideIt hIz
      clear hI hIz
      have HC : Hid (cs.length = n1 ∧ ∀ q v, q < 0 → cs[q]? = some v → MkB wr (fun g => w.heap.size ≤ g) v (txt p I q)) := hideIt ⟨cl, fun q v hq => by omega⟩
      have LS0 : LS wr base 40 1 25 (some ⟨gr, 0, none⟩) m cb ps (css'.set i cs) := by
        rw [set_self hc]; exact ls
      have HM0 : Hid (MarkM wr (fun g => w.heap.size ≤ g) p id0 i css') := HM
      clear ls hq hc gc orow cl c1 HM
      go_wp2
      clear cell c2
      obtain ⟨wo, hwo⟩ : ∃ wo, wo = wr := ⟨_, rfl⟩
      go_loopw [6] (fun jj wk => ∃ (j : Nat) (xs : List Value), j ≤ n1 ∧ jj = .int .i64 (j : Int) ∧ Hid (xs.length = n1 ∧ ∀ q v, q < j → xs[q]? = some v → MkB wk (fun g => w.heap.size ≤ g) v (txt p I q)) ∧ LS wk base 40 1 25 (some ⟨gr, 0, none⟩) m cb ps (css'.set i xs) ∧ Hid (MarkM wk (fun g => w.heap.size ≤ g) p id0 i css') ∧ Bk wk gk bs ∧ Out (InPs ps) w wk)
        (fun jj _ => n1 - (intOf jj).toNat)
      case atStart => exact ⟨0, cs, by omega, rfl, HC, LS0, HM0, bk, bw⟩
      case round =>
        clear HC LS0 bk bw hwo HM0
        obtain ⟨j, xs, hj, rfl, HX, ls, HM, bk, bw⟩ := hrel
        have il : i < css'.length := by rw [← List.length_set (i := i) (a := xs), ← ls.len, ls.n]; exact hlt
        have hci : (css'.set i xs)[i]? = some xs := List.getElem?_set_self il
        obtain ⟨gr', q', cs', e', orow, hq', hc', cell, gc⟩ := ls.at_ i hlt
        cases e'
        obtain rfl : q' = (A1, n1, k1) := Option.some.inj (hq'.symm.trans HQ.out)
        obtain rfl : cs' = xs := Option.some.inj (hc'.symm.trans hci)
        simp only at cell gc
        have c1 := OC.cell bk 1 _ E1.out
        have c2 := OC.cell bk 11 _ E2.out
        by_cases hlj : j < n1
        · rcases gc.oc with ⟨_, z, _⟩ | ⟨g1, rfl, hg1, o1⟩
          · omega
          have TBr : Tb B wr := HTB.out.next (bw.below HB.out HLO.out)
          have MK := fun W hW (hT : Tb B W) => byteListsMark_calls B gk p ((id : Int) + 1) I j W hW hT HIz.out p0 p1 (by have := HI1.out; omega) (by omega)
          have TBd : Hid (Tb B wr.drew) := hideIt (TBr.next (drew1 wr |>.mono (Nat.le_trans HB.out bw.size)))
          have QIN : Hid (ps[i]? = some (some ⟨g1, 0, none⟩, n1, k1)) := hideIt hq'
          have CIN := hideIt hci
          have LSr := hideIt ls
          have BKr := hideIt bk
          have OUr := hideIt bw
          have ORr := hideIt orow
          have O1r := hideIt o1
          have i2 : (j : Int) < (n1 : Int) := by omega
          have HDJ := hideIt (drew1 wr)
          have c1d : wr.drew.cell? ⟨gk, 1, none⟩ = some (.int .i64 p) := c1
          have c2d : wr.drew.cell? ⟨gk, 11, none⟩ = some (.slice (some ⟨gr, 0, none⟩) m cb) := c2
          have celld : wr.drew.cell? ⟨gr, i, none⟩ = some (.slice (some ⟨g1, 0, none⟩) n1 k1) := cell
          clear ls bk bw o1 gc hq' hc' hci orow TBr
          go_wp2
          go_region_held3 (fun w' => w'.cell? ⟨gk, 11, none⟩ = some (.slice (some ⟨gr, 0, none⟩) m cb) ∧ w'.cell? ⟨gr, i, none⟩ = some (.slice (some ⟨g1, 0, none⟩) n1 k1)) (first | exact ⟨c2d, celld⟩ | exact ⟨c2x, cellx⟩ | exact ⟨c2s, cells⟩ | go_keep)
            (first
              | (go_at_call 196; (with_reducible refine (MK _ c1d TBd.out).mono ?_); rintro en wx ⟨v, rfl, mv, xx⟩; obtain ⟨gv, cv, rfl, rv, uv, nv⟩ := mv; have XB := hideIt (blw_step HDJ.out xx); clear xx; have OX := hideIt (OC.below O1r.out XB.out); have c2x := OC.cell (Bk.below BKr.out XB.out) 11 _ E2.out; have cellx := OC.cell (OC.below ORr.out XB.out) i _ (by rw [List.getElem?_map, QIN.out]; rfl); have f0 := OC.free OX.out j; obtain ⟨y0, v0⟩ := OC.hasN OX.out (k := j) (by omega); have c2s : (wx.setCell ⟨g1, j, none⟩ (.slice (some ⟨gv, 0, none⟩) (txt p I j).length cv)).cell? ⟨gk, 11, none⟩ = some (.slice (some ⟨gr, 0, none⟩) m cb) := cell_sm c2x (Sm.setCell _ _ _ (by rintro rfl; exact absurd (OC.tyy (Bk.below BKr.out XB.out) OX.out) (by decide))); have cells : (wx.setCell ⟨g1, j, none⟩ (.slice (some ⟨gv, 0, none⟩) (txt p I j).length cv)).cell? ⟨gr, i, none⟩ = some (.slice (some ⟨g1, 0, none⟩) n1 k1) := cell_sm cellx (Sm.setCell _ _ _ (by rintro rfl; exact absurd (OC.tyy (OC.below ORr.out XB.out) OX.out) (by decide)))))
          have MV : Hid (MkB wx (fun g => w.heap.size ≤ g) (.slice (some ⟨gv, 0, none⟩) (txt p I j).length cv) (txt p I j)) := hideIt ⟨gv, cv, rfl, rv, uv, Nat.le_trans OUr.out.size nv⟩
          have LT := hideIt (LS.turn (LS.below LSr.out XB.out) (by decide) i j g1 n1 k1 cs' (.slice (some ⟨gv, 0, none⟩) (txt p I j).length cv) QIN.out CIN.out)
          rw [List.set_set] at LT
          have SK := hideIt (show ∀ g, U8 wx g → Sm wx (wx.setCell ⟨g1, j, none⟩ (.slice (some ⟨gv, 0, none⟩) (txt p I j).length cv)) g from fun g u => Sm.setCell _ _ _ (fun e => U8.ne u OX.out (by decide) e))
          have HX2 : Hid ((cs'.set j (.slice (some ⟨gv, 0, none⟩) (txt p I j).length cv)).length = n1 ∧ ∀ q v, q < j + 1 → (cs'.set j (.slice (some ⟨gv, 0, none⟩) (txt p I j).length cv))[q]? = some v → MkB (wx.setCell ⟨g1, j, none⟩ (.slice (some ⟨gv, 0, none⟩) (txt p I j).length cv)) (fun g => w.heap.size ≤ g) v (txt p I q)) := hideIt ⟨by rw [List.length_set]; exact HX.out.1, fun q v hq hv => by
            rw [List.getElem?_set] at hv
            by_cases hqj : j = q
            · subst hqj
              rw [if_pos rfl] at hv
              split at hv
              · cases hv
                exact MV.out.same fun g u _ => SK.out g u
              · cases hv
            · rw [if_neg hqj] at hv
              exact ((HX.out.2 q v (by omega) hv).same (w' := wx) fun g u _ => Sm.of_below XB.out u.lt).same fun g u _ => SK.out g u⟩
          have HM2 := hideIt ((HM.out.below XB.out).same fun g u _ => SK.out g u)
          have BT : Bk (wx.setCell ⟨g1, j, none⟩ (.slice (some ⟨gv, 0, none⟩) (txt p I j).length cv)) gk bs := Bk.same (Bk.below BKr.out XB.out) (Sm.setCell _ _ _ (by rintro rfl; exact absurd (OC.tyy (Bk.below BKr.out XB.out) OX.out) (by decide)))
          have b2 : Out (InPs ps) w (wx.setCell ⟨g1, j, none⟩ (.slice (some ⟨gv, 0, none⟩) (txt p I j).length cv)) := (OUr.out.step XB.out).grow (grownBy_set' _ g1 j _) (fun g hg => by cases hg; exact Or.inl (InPs.at_ QIN.out))
          clear MV SK rv uv
          go_wp2
          go_roundw
          case rel => exact ⟨j + 1, _, by omega, by go_num, HX2, LT.out, HM2, BT, b2⟩
          case measure => simp [intOf]; omega
        · obtain rfl : n1 = j := by omega
          have HM2 : Hid (MarkM wr (fun g => w.heap.size ≤ g) p id0 (i + 1) (css'.set i cs')) := hideIt ((HM.out.set (Nat.le_refl _) cs').more fun cs0 h0 => by
            rw [hci] at h0
            cases h0
            intro q v hv
            have := HX.out.2 q v (by rw [← HX.out.1]; exact (List.getElem?_eq_some_iff.1 hv).1) hv
            rw [← HI1.out, HI.out] at this
            exact this)
          have HS2 : Hid (∀ cs ∈ css'.set i cs', cs.length ≤ K) := hideIt fun c0 h0 => by
            rcases List.mem_or_eq_of_mem_set h0 with q | q
            · exact HS.out c0 q
            · rw [q, HX.out.1]; exact HLEN.out
          have HI2 : Hid (id + 1 = id0 + (i + 1)) := hideIt (by rw [HI.out]; omega)
          clear hq' hc' hci orow gc
          go_wp2
          go_roundw
          case rel => exact ⟨i + 1, id + 1, _, by omega, HI2, by go_num, by go_num, ls, HS2, HM2, bk, bw⟩
          case measure => simp [intOf]; omega
    · obtain rfl : m = i := by omega
      have e : Ending.returned (.int .i64 (id : Int)) = .returned (.int .i64 ((id0 + m : Nat) : Int)) := by rw [HI.out]
      have E := hideIt e
      clear e
      go_wp2
      go_ret
      exact ⟨css', E.out, ls, HM.out, bk, bw⟩
def HoldM (z : Nat) (w : World) (e : Ending) (w' : World) : Prop := e = .returned (.tuple #[.int .i64 (z : Int), .bool true]) ∧ Below w.heap.size w w'
set_option maxRecDepth 100000 in
set_option maxHeartbeats 4000000 in
theorem byteListsHold_calls (B gk m cb mg cg id0 K K2 : Nat) (F : Nat → Prop) (p : Int) (Ab Ag : Option Addr) (ps qs : List Slot) (css zss : List (List Value)) (w : World) (tb : Tb B w) (hB : B ≤ w.heap.size) (hc1 : w.cell? ⟨gk, 1, none⟩ = some (.int .i64 p)) (hc2 : w.cell? ⟨gk, 11, none⟩ = some (.slice Ab m cb)) (hc4 : w.cell? ⟨gk, 13, none⟩ = some (.slice Ag mg cg))
    (h : RS w 1 Ab m cb ps css) (k1 : MarkM w F p id0 m css) (s1 : ∀ cs ∈ css, cs.length ≤ K) (g : RS w 1 Ag mg cg qs zss) (hmg : mg = 0 ∨ mg = m) (k2 : MarkM w F p id0 m zss) (s2 : ∀ cs ∈ zss, cs.length ≤ K2) (hm : m ≤ 1000000) (h0 : id0 ≤ 3000000) (p0 : 0 ≤ p) (p1 : p ≤ 1) (hK : K ≤ 1000000) (hK2 : K2 ≤ 2000000) :
    Calls Tryz.prog 145 #[.pointer (some ⟨gk, 0, none⟩), .int .i64 (id0 : Int)] w (HoldM (id0 + m) w) := by
  have K1 := hideIt k1
  have K2 := hideIt k2
  have S1 := hideIt s1
  have S2 := hideIt s2
  have HMG := hideIt hmg
  have HR := hideIt h
  have GR' := hideIt g
  have HTB := hideIt tb
  have HB := hideIt hB
  clear k1 k2 s1 s2 hmg h g tb hB
  go_enter Tryz.func145, Tryz.ntmps145
  go_wp2
  go_loopw [1, 6, 7] (fun dd aa ii wr => ∃ (i id : Nat), i ≤ m ∧ Hid (id = id0 + i) ∧ dd = .int .i64 (id : Int) ∧ aa = .bool true ∧ ii = .int .i64 (i : Int) ∧ Below w.heap.size w wr)
    (fun _ _ ii _ => m - (intOf ii).toNat)
  case atStart => exact ⟨0, id0, by omega, hideIt rfl, rfl, rfl, rfl, Below.refl _ _⟩
  case round =>
    obtain ⟨i, id, hi, HI, rfl, rfl, rfl, b⟩ := hrel
    have c2 := (b.cell (World.block_lt_of_cell? w _ hc2)).trans hc2
    have c4 := (b.cell (World.block_lt_of_cell? w _ hc4)).trans hc4
    have c1 := (b.cell (World.block_lt_of_cell? w _ hc1)).trans hc1
    by_cases hlt : i < m
    · obtain ⟨ad, q, cs, rfl, hq, hc, cell, rc⟩ := (HR.out.below b).at_ i hlt
      obtain ⟨A1, n1, d1⟩ := q
      simp only at cell rc
      have cl : cs.length = n1 := by have := rc.len; omega
      have ce := (K1.out.below b) i cs hlt hc
      have sl := S1.out cs (List.mem_of_getElem? hc)
      rw [cl] at sl
      have idl : id ≤ 4000000 := by rw [HI.out]; omega
      rw [← HI.out] at ce
      have SH := byteListsShow_calls B gk F p ((id : Int) + 1) (id + 1) A1 n1 d1 cs wr c1 (HTB.out.below HB.out b) (Nat.le_trans HB.out b.size) (by omega) p0 p1 rc ce (by omega) (by omega)
      have i1 : (i : Int) < (m : Int) := by omega
      have HI2 : Hid (id + 1 = id0 + (i + 1)) := hideIt (by rw [HI.out]; omega)
      clear hq hc cl ce sl rc
      go_upto_region 7 with (go_at_call 209; (with_reducible refine SH.mono ?_); rintro en wx ⟨rfl, xx⟩)
      have b2 := blw_step b xx
      clear c2 c4 cell SH xx
      have c2 := (b2.cell (World.block_lt_of_cell? w _ hc2)).trans hc2
      have c4 := (b2.cell (World.block_lt_of_cell? w _ hc4)).trans hc4
      rcases HMG.out with z | z
      · subst z
        have t1 : decide ((i : Int) < 0) = false := decide_eq_false (by omega)
        go_wp2
        go_roundw
        case rel => exact ⟨i + 1, id + 1, by omega, HI2, by go_num, rfl, by go_num, b2⟩
        case measure => simp [intOf]; omega
      · subst z
        have c1 := (b2.cell (World.block_lt_of_cell? w _ hc1)).trans hc1
        obtain ⟨ad2, q, cs, rfl, hq, hc, cell2, rc⟩ := (GR'.out.below b2).at_ i hlt
        obtain ⟨A2, n2, d2⟩ := q
        simp only at cell2 rc
        have cl : cs.length = n2 := by have := rc.len; omega
        have ce := (K2.out.below b2) i cs hlt hc
        have sl := S2.out cs (List.mem_of_getElem? hc)
        rw [cl] at sl
        rw [← HI.out] at ce
        have SH2 := byteListsShow_calls B gk F p ((id : Int) + 1) (id + 1) A2 n2 d2 cs wx c1 (HTB.out.below HB.out b2) (Nat.le_trans HB.out b2.size) (by omega) p0 p1 rc ce (by omega) (by omega)
        have t1 : decide (i < mg) = true := decide_eq_true hlt
        clear hq hc cl ce sl rc
        go_wp2_with (go_at_call 209; (with_reducible refine SH2.mono ?_); rintro en wy ⟨rfl, xy⟩)
        have b3 := blw_step b2 xy
        go_roundw
        case rel => exact ⟨i + 1, id + 1, by omega, HI2, by go_num, rfl, by go_num, b3⟩
        case measure => simp [intOf]; omega
    · obtain rfl : m = i := by omega
      have E : Hid (id = id0 + m) := hideIt HI.out
      go_wp2
      go_ret2
      rw [← E.out]
      exact ⟨rfl, b⟩
end Go.Proofs.YtmeakhiiebeneaaGreatDoor
