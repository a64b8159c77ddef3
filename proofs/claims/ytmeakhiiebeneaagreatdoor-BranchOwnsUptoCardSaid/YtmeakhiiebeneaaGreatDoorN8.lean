/- coppicekept.Book, lists of kids: kidsMark, kidsShow. -/
import Derived.Test.YtmeakhiiebeneaaGreatDoorN4
import Derived.Test.YtmeakhiiebeneaaGreatDoorM1
import Derived.Deep.QuietTactic
import Derived.BigQuiet
import Derived.BigRegion
import Derived.WalkLawsBesides
import Derived.Test.YtmeakhiiebeneaaGreatDoorN1
import Derived.Deep.CutRange
namespace Go.Proofs.YtmeakhiiebeneaaGreatDoor
open Go.RowKit

def mkD (p : Int) (id j : Nat) : List Value := [.int .i64 (id : Int), .int .i64 (2 * (j : Int) + p)]
theorem mkD_length (p : Int) (id j : Nat) : (mkD p id j).length = 2 := rfl
/-- a kid at an address. -/
structure KxAt (w : World) (a : Addr) (x y : Int) : Prop where
  c0 : w.cell? a = some (.int .i64 x)
  c1 : w.cell? ⟨a.block, a.off + 1, none⟩ = some (.int .i64 y)
theorem KxAt.new (w : World) (t : TypeId) (x y : Int) : KxAt (w.alloc (.cells #[.int .i64 x, .int .i64 y] t)) ⟨w.heap.size, 0, none⟩ x y := ⟨by simp, by simp⟩
theorem KxAt.below {w w' : World} {a : Addr} {x y : Int} (h : KxAt w a x y) (b : Below w.heap.size w w') : KxAt w' a x y :=
  ⟨(b.cell (World.block_lt_of_cell? w _ h.c0)).trans h.c0, (b.cell (World.block_lt_of_cell? w _ h.c1)).trans h.c1⟩
theorem KxAt.head {w : World} {g : Nat} {x y : Int} (h : KxAt w ⟨g, 0, none⟩ x y) : w.cell? ⟨g, 0, none⟩ = some (.int .i64 x) ∧ w.cell? ⟨g, 1, none⟩ = some (.int .i64 y) := ⟨h.c0, h.c1⟩
theorem infoD2 : (Tryz.prog.info? 124).map (·.size) = some 2 := by kernel_rfl
theorem ret_kidS {fn : Func} {R : Ending → World → Prop} {a : Act} {w : World} {g s : Nat} {x y : Value} (q : OC w 124 2 g 1 1 [x, y]) (hres : fn.results = #[.cell s 124]) (h2 : a.tmps.getD s undef = .pointer (some ⟨g, 0, none⟩)) (hd : a.defers = [])
    (hR : R (.returned (.agg #[x, y])) w) : bodyPost Tryz.prog fn R .ret a w := by
  obtain ⟨hl, cur, hg, r1, r2, r3, r4⟩ := OC.block q
  have e : cur = #[x, y] := by
    apply Array.ext'
    rw [List.take_of_length_le (by rw [Array.length_toList, r3]; exact Nat.le_refl _)] at r4
    exact r4
  subst e
  exact bodyPost_ret (results_cell_row hres _ _ g _ _ _ _ h2 hg Tryz.underlying124 rfl infoD2) hd hR
set_option maxRecDepth 100000 in
set_option maxHeartbeats 1000000 in
theorem kidsMark_calls (gk : Nat) (p z : Int) (id j : Nat) (w : World) (hp : w.cell? ⟨gk, 1, none⟩ = some (.int .i64 p)) (hz : z = (id : Int)) (h0 : 0 ≤ p) (h3 : p ≤ 1) (_h1 : id ≤ 1000000000) (h2 : j ≤ 1000000000) :
    Calls Tryz.prog 200 #[.pointer (some ⟨gk, 0, none⟩), .int .i64 z, .int .i64 (j : Int)] w fun e w' => e = .returned (.agg #[.int .i64 (id : Int), .int .i64 (2 * (j : Int) + p)]) ∧ Below w.heap.size w w' := by
  subst hz
  have wp : IntKind.i64.wrap (2 * (j : Int) + p) = 2 * (j : Int) + p := by rw [IntKind.wrap_i64]; omega
  have hl : gk < w.heap.size := World.block_lt_of_cell? w _ hp
  have hp1 : (w.alloc (.cells #[.int .i64 0, .int .i64 0] 124)).cell? ⟨gk, 1, none⟩ = some (.int .i64 p) := cell_sm hp (Sm.alloc w _ hl)
  have oi : OC (w.alloc (.cells #[.int .i64 0, .int .i64 0] 124)) 124 2 w.heap.size 1 1 [.int .i64 0, .int .i64 0] := OC.mk rfl _ (heap_alloc_new w _) (Nat.le_refl _) (by rw [maxLen_is]; omega) rfl rfl
  have bb := below1 w (.cells #[.int .i64 0, .int .i64 0] 124)
  go_enter Tryz.func200, Tryz.ntmps200
  go_wp2
  have of : OC (w.alloc (.cells #[.int .i64 (id : Int), .int .i64 (2 * (j : Int) + p)] 124)) 124 2 w.heap.size 1 1 [.int .i64 (id : Int), .int .i64 (2 * (j : Int) + p)] := OC.mk rfl _ (heap_alloc_new w _) (Nat.le_refl _) (by rw [maxLen_is]; omega) rfl rfl
  exact ret_kidS of rfl rfl rfl ⟨rfl, below1 _ _⟩
theorem add_moreD (ad : Addr) (j k : Nat) : ad.add (j * 2 + (k + 1)) = ⟨(ad.add (j * 2)).block, (ad.add (j * 2)).off + (k + 1), none⟩ := by
  rw [← Addr.add_add, Addr.add_succ']
theorem kdD_at {w : World} {A : Option Addr} {n c id : Nat} {p : Int} (h : RC w 2 A n c (runs (mkD p id) n)) (j : Nat) (hj : j < n) : ∃ ad, A = some ad ∧ KxAt w (ad.add (j * 2)) (id : Int) (2 * (j : Int) + p) := by
  obtain ⟨ad, e, hc⟩ := RC.drop0 h (by omega)
  have k := fun i (hi : i < 2) => runs_get (mkD p id) 2 (mkD_length p id) n j i hj hi
  refine ⟨ad, e, ⟨?_, ?_⟩⟩
  · exact hc (j * 2) _ (k 0 (by decide))
  · rw [← add_moreD]; exact hc _ _ (k 1 (by decide))
set_option maxRecDepth 100000 in
set_option maxHeartbeats 4000000 in
theorem kidsShow_calls (gk : Nat) (p z : Int) (id : Nat) (A : Option Addr) (n c : Nat) (w : World) (hp : w.cell? ⟨gk, 1, none⟩ = some (.int .i64 p)) (hz : z = (id : Int)) (h0 : 0 ≤ p) (h3 : p ≤ 1) (h : RC w 2 A n c (runs (mkD p id) n)) (h1 : id ≤ 1000000000) (h2 : n ≤ 1000000000) :
    Calls Tryz.prog 213 #[.pointer (some ⟨gk, 0, none⟩), .slice A n c, .int .i64 z] w fun e w' => e = .returned (.bool true) ∧ Below w.heap.size w w' := by
  subst hz
  go_enter Tryz.func213, Tryz.ntmps213
  go_wp2
  go_loopw [7] (fun jj wr => ∃ j : Nat, j ≤ n ∧ jj = .int .i64 (j : Int) ∧ Below w.heap.size w wr) (fun jj _ => n - (intOf jj).toNat)
  case atStart => exact ⟨0, by omega, rfl, Below.refl _ _⟩
  case round =>
    obtain ⟨j, hj, rfl, b⟩ := hrel
    by_cases hlt : j < n
    · obtain ⟨ad, rfl, it⟩ := kdD_at (h.below b) j hlt
      have MK := kidsMark_calls gk p (id : Int) id j wr ((b.cell (World.block_lt_of_cell? w _ hp)).trans hp) rfl h0 h3 h1 (by omega)
      have i1 : (j : Int) < (n : Int) := by omega
      go_upto_region 5 with (go_at_call 200; (with_reducible refine MK.mono ?_); rintro en w2 ⟨rfl, x2⟩)
      have ba := below1 w2 (.cells #[.int .i64 (id : Int), .int .i64 (2 * (j : Int) + p)] 124)
      have b2 := blw_step (blw_step b x2) ba
      have itw := KxAt.new w2 124 (id : Int) (2 * (j : Int) + p)
      have it2 := (it.below x2).below ba
      clear MK it ba x2 b
      generalize w2.alloc (.cells #[.int .i64 (id : Int), .int .i64 (2 * (j : Int) + p)] 124) = w3 at *
      generalize w2.heap.size = g8 at *
      have IT : KxAt w3.drew (ad.add (j * 2)) (id : Int) (2 * (j : Int) + p) := ⟨it2.c0, it2.c1⟩
      have IT' : KxAt w3.drew ⟨g8, 0, none⟩ (id : Int) (2 * (j : Int) + p) := ⟨itw.c0, itw.c1⟩
      obtain ⟨y0, y1⟩ := it2
      obtain ⟨z0, z1⟩ := itw.head
      clear IT IT' itw
      go_wp2
      go_quiet (fail)
      go_wp2
      have b3 := below_drewN b2 nq
      go_roundw
      case rel => exact ⟨j + 1, by omega, by go_num, b3⟩
      case measure => simp [intOf]; omega
    · obtain rfl : n = j := by omega
      go_wp2
      go_ret
      exact ⟨rfl, b⟩
end Go.Proofs.YtmeakhiiebeneaaGreatDoor
namespace Go.Proofs.YtmeakhiiebeneaaGreatDoor
open Go.RowKit

def WriteD (base m cb id0 gk : Nat) (p : Int) (Ab : Option Addr) (ps : List Slot) (bs : List Value) (w : World) (e : Ending) (w' : World) : Prop :=
  ∃ css', e = .returned (.int .i64 ((id0 + m : Nat) : Int)) ∧ LS w' base 124 2 78 Ab m cb ps css' ∧ MarkR (mkD p) id0 m css' ∧ Bk w' gk bs ∧ Out (InPs ps) w w'
set_option maxRecDepth 100000 in
set_option maxHeartbeats 8000000 in
theorem kidsWrite_calls (gk base m cb id0 K : Nat) (p : Int) (Ab : Option Addr) (ps : List Slot) (bs : List Value) (css : List (List Value)) (w : World) (hk : Bk w gk bs) (e1 : bs[1]? = some (.int .i64 p)) (e2 : bs[23]? = some (.slice Ab m cb)) (h : LS w base 124 2 78 Ab m cb ps css) (hs : ∀ cs ∈ css, cs.length ≤ K * 2) (hm : m ≤ 1000000) (h0 : id0 ≤ 1000000) (p0 : 0 ≤ p) (p1 : p ≤ 1) (hK : K ≤ 1000000) :
    Calls Tryz.prog 136 #[.pointer (some ⟨gk, 0, none⟩), .int .i64 (id0 : Int)] w (WriteD base m cb id0 gk p Ab ps bs w) := by
  have HS := hideIt hs
  have E1 := hideIt e1
  have E2 := hideIt e2
  clear hs e1 e2
  go_enter Tryz.func136, Tryz.ntmps136
  go_wp2
  go_loopw [1, 5] (fun dd ii wr => ∃ (i id : Nat) (css' : List (List Value)), i ≤ m ∧ Hid (id = id0 + i) ∧ dd = .int .i64 (id : Int) ∧ ii = .int .i64 (i : Int) ∧ LS wr base 124 2 78 Ab m cb ps css' ∧ Hid (∀ cs ∈ css', cs.length ≤ K * 2) ∧ Hid (MarkR (mkD p) id0 i css') ∧ Bk wr gk bs ∧ Out (InPs ps) w wr)
    (fun _ ii _ => m - (intOf ii).toNat)
  case atStart => exact ⟨0, id0, css, by omega, hideIt rfl, rfl, rfl, h, HS, hideIt (fun j cs hj => by omega), hk, Out.refl _ _⟩
  case round =>
    clear HS h hk
    obtain ⟨i, id, css', hi, HI, rfl, rfl, ls, HS, HM, bk, bw⟩ := hrel
    have c1 := OC.cell bk 1 _ E1.out
    have c2 := OC.cell bk 23 _ E2.out
    by_cases hlt : i < m
    · obtain ⟨gr, q, cs, rfl, orow, hq, hc, cell, gc⟩ := ls.at_ i hlt
      obtain ⟨A1, n1, k1⟩ := q
      have cl : cs.length = n1 * 2 := gc.len
      have HLEN : Hid (n1 * 2 ≤ K * 2) := hideIt (by have h1 := HS.out cs (List.mem_of_getElem? hc); rw [cl] at h1; exact h1)
      have n1l : n1 ≤ 1000000 := by have h1 := HS.out cs (List.mem_of_getElem? hc); rw [cl] at h1; omega
      have HQ := hideIt hq
      have i1 : (i : Int) < (m : Int) := by omega
      have idl : id ≤ 2000000 := by rw [HI.out]; omega
      obtain ⟨I, hI⟩ : ∃ I, id + 1 = I := ⟨_, rfl⟩
      have hIz : (id : Int) + 1 = (I : Int) := by omega
      have HI1 := hideIt hI
      have HIz := hideIt hIz
      clear hI hIz
      have HC : Hid (cs.length = n1 * 2 ∧ cs.take (0 * 2) = runs (mkD p I) 0) := hideIt ⟨cl, by simp [runs]⟩
      have LS0 : LS wr base 124 2 78 (some ⟨gr, 0, none⟩) m cb ps (css'.set i cs) := by
        rw [set_self hc]; exact ls
      clear ls hq hc gc orow cl c1
      go_wp2
      clear cell c2
      obtain ⟨wo, hwo⟩ : ∃ wo, wo = wr := ⟨_, rfl⟩
      go_loopw [6] (fun jj wk => ∃ (j : Nat) (xs : List Value), j ≤ n1 ∧ jj = .int .i64 (j : Int) ∧ Hid (xs.length = n1 * 2 ∧ xs.take (j * 2) = runs (mkD p I) j) ∧ LS wk base 124 2 78 (some ⟨gr, 0, none⟩) m cb ps (css'.set i xs) ∧ Bk wk gk bs ∧ Out (InPs ps) w wk)
        (fun jj _ => n1 - (intOf jj).toNat)
      case atStart => exact ⟨0, cs, by omega, rfl, HC, LS0, bk, bw⟩
      case round =>
        clear HC LS0 bk bw hwo
        obtain ⟨j, xs, hj, rfl, HX, ls, bk, bw⟩ := hrel
        have il : i < css'.length := by rw [← List.length_set (i := i) (a := xs), ← ls.len, ls.n]; exact hlt
        have hci : (css'.set i xs)[i]? = some xs := List.getElem?_set_self il
        obtain ⟨gr', q', cs', e', orow, hq', hc', cell, gc⟩ := ls.at_ i hlt
        cases e'
        obtain rfl : q' = (A1, n1, k1) := Option.some.inj (hq'.symm.trans HQ.out)
        obtain rfl : cs' = xs := Option.some.inj (hc'.symm.trans hci)
        simp only at cell gc
        have c1 := OC.cell bk 1 _ E1.out
        have c2 := OC.cell bk 23 _ E2.out
        by_cases hlj : j < n1
        · rcases gc.oc with ⟨_, z, _⟩ | ⟨g1, rfl, hg1, o1⟩
          · omega
          have MK := fun W hW => kidsMark_calls gk p ((id : Int) + 1) I j W hW HIz.out p0 p1 (by have := HI1.out; omega) (by omega)
          have HX2 : Hid ((putL cs' (j * 2) (mkD p I j)).length = n1 * 2 ∧ (putL cs' (j * 2) (mkD p I j)).take ((j + 1) * 2) = runs (mkD p I) (j + 1)) := hideIt (putL_step (sz := 2) HX.out.1 HX.out.2 hlj rfl)
          have QIN : Hid (ps[i]? = some (some ⟨g1, 0, none⟩, n1, k1)) := hideIt hq'
          have CIN := hideIt hci
          have LSr := hideIt ls
          have BKr := hideIt bk
          have OUr := hideIt bw
          have ORr := hideIt orow
          have O1r := hideIt o1
          have i2 : (j : Int) < (n1 : Int) := by omega
          have dj := drew1 wr
          have c1d : wr.drew.cell? ⟨gk, 1, none⟩ = some (.int .i64 p) := c1
          have c2d : wr.drew.cell? ⟨gk, 23, none⟩ = some (.slice (some ⟨gr, 0, none⟩) m cb) := c2
          have celld : wr.drew.cell? ⟨gr, i, none⟩ = some (.slice (some ⟨g1, 0, none⟩) n1 k1) := cell
          have HDJ := hideIt dj
          clear ls bk bw o1 gc hq' hc' hci orow dj
          go_wp2
          go_region_held3 (fun w' => w'.cell? ⟨gk, 23, none⟩ = some (.slice (some ⟨gr, 0, none⟩) m cb) ∧ w'.cell? ⟨gr, i, none⟩ = some (.slice (some ⟨g1, 0, none⟩) n1 k1)) (first | exact ⟨c2d, celld⟩ | exact ⟨c2x, cellx⟩ | exact ⟨c2s, cells⟩ | go_keep)
            (first
              | (go_at_call 200; (with_reducible refine (MK _ c1d).mono ?_); rintro en wx ⟨rfl, xx⟩; have XB := hideIt (blw_step HDJ.out xx); clear xx; have OX := hideIt (OC.below O1r.out XB.out); have c2x := OC.cell (Bk.below BKr.out XB.out) 23 _ E2.out; have cellx := OC.cell (OC.below ORr.out XB.out) i _ (by rw [List.getElem?_map, QIN.out]; rfl); have f0 := OC.free OX.out (j * 2); have f1 := OC.free OX.out (j * 2 + 1); obtain ⟨y0, v0⟩ := OC.hasN OX.out (k := j * 2) (by omega); obtain ⟨y1, v1⟩ := OC.hasN OX.out (k := j * 2 + 1) (by omega); have c2s : ((wx.setCell ⟨g1, j * 2, none⟩ (.int .i64 (I : Int))).setCell ⟨g1, j * 2 + 1, none⟩ (.int .i64 (2 * (j : Int) + p))).cell? ⟨gk, 23, none⟩ = some (.slice (some ⟨gr, 0, none⟩) m cb) := cell_sm c2x ((fun {g : Nat} (hg : g ≠ g1) => (((Sm.refl wx g).trans (Sm.setCell _ _ _ hg)).trans (Sm.setCell _ _ _ hg) : Sm wx ((wx.setCell ⟨g1, j * 2, none⟩ (.int .i64 (I : Int))).setCell ⟨g1, j * 2 + 1, none⟩ (.int .i64 (2 * (j : Int) + p))) g)) (by rintro rfl; exact absurd (OC.tyy (Bk.below BKr.out XB.out) OX.out) (by decide))); have cells : ((wx.setCell ⟨g1, j * 2, none⟩ (.int .i64 (I : Int))).setCell ⟨g1, j * 2 + 1, none⟩ (.int .i64 (2 * (j : Int) + p))).cell? ⟨gr, i, none⟩ = some (.slice (some ⟨g1, 0, none⟩) n1 k1) := cell_sm cellx ((fun {g : Nat} (hg : g ≠ g1) => (((Sm.refl wx g).trans (Sm.setCell _ _ _ hg)).trans (Sm.setCell _ _ _ hg) : Sm wx ((wx.setCell ⟨g1, j * 2, none⟩ (.int .i64 (I : Int))).setCell ⟨g1, j * 2 + 1, none⟩ (.int .i64 (2 * (j : Int) + p))) g)) (by rintro rfl; exact absurd (OC.tyy (OC.below ORr.out XB.out) OX.out) (by decide)))))
          have LT := hideIt (LS.turn2 (LS.below LSr.out XB.out) (by decide) i (j * 2) g1 n1 k1 cs' (.int .i64 (I : Int)) (.int .i64 (2 * (j : Int) + p)) QIN.out CIN.out)
          rw [List.set_set] at LT
          have BT : Bk ((wx.setCell ⟨g1, j * 2, none⟩ (.int .i64 (I : Int))).setCell ⟨g1, j * 2 + 1, none⟩ (.int .i64 (2 * (j : Int) + p))) gk bs := Bk.same (Bk.below BKr.out XB.out) ((fun {g : Nat} (hg : g ≠ g1) => (((Sm.refl wx g).trans (Sm.setCell _ _ _ hg)).trans (Sm.setCell _ _ _ hg) : Sm wx ((wx.setCell ⟨g1, j * 2, none⟩ (.int .i64 (I : Int))).setCell ⟨g1, j * 2 + 1, none⟩ (.int .i64 (2 * (j : Int) + p))) g)) (by rintro rfl; exact absurd (OC.tyy (Bk.below BKr.out XB.out) OX.out) (by decide)))
          have b2 : Out (InPs ps) w ((wx.setCell ⟨g1, j * 2, none⟩ (.int .i64 (I : Int))).setCell ⟨g1, j * 2 + 1, none⟩ (.int .i64 (2 * (j : Int) + p))) := (OUr.out.step XB.out).grow (((World.grownBy.refl wx _).trans (grownBy_set' _ g1 (j * 2) _)).trans (grownBy_set' _ g1 (j * 2 + 1) _)) (fun g hg => by cases hg; exact Or.inl (InPs.at_ QIN.out))
          go_wp2
          go_roundw
          case rel => exact ⟨j + 1, _, by omega, by go_num, HX2, LT.out, BT, b2⟩
          case measure => simp [intOf]; omega
        · obtain rfl : n1 = j := by omega
          have HM2 : Hid (MarkR (mkD p) id0 (i + 1) (css'.set i cs')) := hideIt ((HM.out.set (Nat.le_refl _) cs').more fun cs0 h0 => by
            rw [hci] at h0
            cases h0
            have := HX.out.2
            rw [← HX.out.1, List.take_length, ← HI1.out, HI.out] at this
            exact ⟨_, this⟩)
          have HS2 : Hid (∀ cs ∈ css'.set i cs', cs.length ≤ K * 2) := hideIt fun c0 h0 => by
            rcases List.mem_or_eq_of_mem_set h0 with q | q
            · exact HS.out c0 q
            · rw [q, HX.out.1]
              exact HLEN.out
          have HI2 : Hid (id + 1 = id0 + (i + 1)) := hideIt (by rw [HI.out]; omega)
          clear hq' hc' hci orow gc
          go_wp2
          go_roundw
          case rel => exact ⟨i + 1, id + 1, _, by omega, HI2, by go_num, by go_num, ls, HS2, HM2, bk, bw⟩
          case measure => simp [intOf]; omega
    · obtain rfl : m = i := by omega
      have e : Ending.returned (.int .i64 (id : Int)) = .returned (.int .i64 ((id0 + m : Nat) : Int)) := by rw [HI.out]
      have E := hideIt e
      clear e
      go_wp2
      go_ret
      exact ⟨css', E.out, ls, HM.out, bk, bw⟩
end Go.Proofs.YtmeakhiiebeneaaGreatDoor
namespace Go.Proofs.YtmeakhiiebeneaaGreatDoor
open Go.RowKit

def HoldD (z : Nat) (w : World) (e : Ending) (w' : World) : Prop := e = .returned (.tuple #[.int .i64 (z : Int), .bool true]) ∧ Below w.heap.size w w'
set_option maxRecDepth 100000 in
set_option maxHeartbeats 4000000 in
theorem kidsHold_calls (gk m cb mg cg id0 K K2 : Nat) (p : Int) (Ab Ag : Option Addr) (ps qs : List Slot) (css zss : List (List Value)) (w : World) (hc1 : w.cell? ⟨gk, 1, none⟩ = some (.int .i64 p)) (hc2 : w.cell? ⟨gk, 23, none⟩ = some (.slice Ab m cb)) (hc4 : w.cell? ⟨gk, 25, none⟩ = some (.slice Ag mg cg))
    (h : RS w 2 Ab m cb ps css) (k1 : MarkR (mkD p) id0 m css) (s1 : ∀ cs ∈ css, cs.length ≤ K * 2) (g : RS w 2 Ag mg cg qs zss) (hmg : mg = 0 ∨ mg = m) (k2 : MarkR (mkD p) id0 m zss) (s2 : ∀ cs ∈ zss, cs.length ≤ K2 * 2) (hm : m ≤ 1000000) (h0 : id0 ≤ 1000000) (p0 : 0 ≤ p) (p1 : p ≤ 1) (hK : K ≤ 1000000) (hK2 : K2 ≤ 2000000) :
    Calls Tryz.prog 149 #[.pointer (some ⟨gk, 0, none⟩), .int .i64 (id0 : Int)] w (HoldD (id0 + m) w) := by
  have K1 := hideIt k1
  have K2 := hideIt k2
  have S1 := hideIt s1
  have S2 := hideIt s2
  have HMG := hideIt hmg
  have HR := hideIt h
  have GR' := hideIt g
  clear k1 k2 s1 s2 hmg h g
  go_enter Tryz.func149, Tryz.ntmps149
  go_wp2
  go_loopw [1, 6, 7] (fun dd aa ii wr => ∃ (i id : Nat), i ≤ m ∧ Hid (id = id0 + i) ∧ dd = .int .i64 (id : Int) ∧ aa = .bool true ∧ ii = .int .i64 (i : Int) ∧ Below w.heap.size w wr)
    (fun _ _ ii _ => m - (intOf ii).toNat)
  case atStart => exact ⟨0, id0, by omega, hideIt rfl, rfl, rfl, rfl, Below.refl _ _⟩
  case round =>
    obtain ⟨i, id, hi, HI, rfl, rfl, rfl, b⟩ := hrel
    have c2 := (b.cell (World.block_lt_of_cell? w _ hc2)).trans hc2
    have c4 := (b.cell (World.block_lt_of_cell? w _ hc4)).trans hc4
    have c1 := (b.cell (World.block_lt_of_cell? w _ hc1)).trans hc1
    by_cases hlt : i < m
    · obtain ⟨ad, q, cs, rfl, hq, hc, cell, rc⟩ := (HR.out.below b).at_ i hlt
      obtain ⟨A1, n1, d1⟩ := q
      simp only at cell rc
      have cl : cs.length = n1 * 2 := rc.len
      have ce := K1.out.at_ (by decide) (fun _ _ => rfl) hlt hc cl
      have sl := S1.out cs (List.mem_of_getElem? hc)
      rw [cl] at sl
      have idl : id ≤ 2000000 := by rw [HI.out]; omega
      rw [ce, ← HI.out] at rc
      have SH := kidsShow_calls gk p ((id : Int) + 1) (id + 1) A1 n1 d1 wr c1 (by omega) p0 p1 rc (by omega) (by omega)
      have i1 : (i : Int) < (m : Int) := by omega
      have HI2 : Hid (id + 1 = id0 + (i + 1)) := hideIt (by rw [HI.out]; omega)
      clear hq hc cl ce sl rc
      go_upto_region 7 with (go_at_call 213; (with_reducible refine SH.mono ?_); rintro en wx ⟨rfl, xx⟩)
      have b2 := blw_step b xx
      clear c2 c4 cell SH xx
      have c2 := (b2.cell (World.block_lt_of_cell? w _ hc2)).trans hc2
      have c4 := (b2.cell (World.block_lt_of_cell? w _ hc4)).trans hc4
      rcases HMG.out with z | z
      · subst z
        have t1 : decide ((i : Int) < 0) = false := decide_eq_false (by omega)
        go_wp2
        go_roundw
        case rel => exact ⟨i + 1, id + 1, by omega, HI2, by go_num, rfl, by go_num, b2⟩
        case measure => simp [intOf]; omega
      · subst z
        have c1 := (b2.cell (World.block_lt_of_cell? w _ hc1)).trans hc1
        obtain ⟨ad2, q, cs, rfl, hq, hc, cell2, rc⟩ := (GR'.out.below b2).at_ i hlt
        obtain ⟨A2, n2, d2⟩ := q
        simp only at cell2 rc
        have cl : cs.length = n2 * 2 := rc.len
        have ce := K2.out.at_ (by decide) (fun _ _ => rfl) hlt hc cl
        have sl := S2.out cs (List.mem_of_getElem? hc)
        rw [cl] at sl
        rw [ce, ← HI.out] at rc
        have SH2 := kidsShow_calls gk p ((id : Int) + 1) (id + 1) A2 n2 d2 wx c1 (by omega) p0 p1 rc (by omega) (by omega)
        have t1 : decide (i < mg) = true := decide_eq_true hlt
        clear hq hc cl ce sl rc
        go_wp2_with (go_at_call 213; (with_reducible refine SH2.mono ?_); rintro en wy ⟨rfl, xy⟩)
        have b3 := blw_step b2 xy
        go_roundw
        case rel => exact ⟨i + 1, id + 1, by omega, HI2, by go_num, rfl, by go_num, b3⟩
        case measure => simp [intOf]; omega
    · obtain rfl : m = i := by omega
      have E : Hid (id = id0 + m) := hideIt HI.out
      go_wp2
      go_ret2
      rw [← E.out]
      exact ⟨rfl, b⟩
end Go.Proofs.YtmeakhiiebeneaaGreatDoor
