/- coppicekept.Book.intsWrite. -/
import Derived.Test.YtmeakhiiebeneaaGreatDoorJn
import Derived.Test.YtmeakhiiebeneaaGreatDoorKb
import Derived.Test.YtmeakhiiebeneaaGreatDoorJp
namespace Go.Proofs.YtmeakhiiebeneaaGreatDoor
open Go.RowKit

def WriteN (base m cb id0 gk : Nat) (p : Int) (Ab : Option Addr) (ps : List Slot) (bs : List Value) (w : World) (e : Ending) (w' : World) : Prop :=
  ∃ css', e = .returned (.int .i64 ((id0 + m : Nat) : Int)) ∧ LS w' base 3 1 63 Ab m cb ps css' ∧ MarkR (mkN p) id0 m css' ∧ Bk w' gk bs ∧ Out (InPs ps) w w'
set_option maxRecDepth 100000 in
set_option maxHeartbeats 8000000 in
theorem intsWrite_calls (gk base m cb id0 K : Nat) (p : Int) (Ab : Option Addr) (ps : List Slot) (bs : List Value) (css : List (List Value)) (w : World) (hk : Bk w gk bs) (e1 : bs[1]? = some (.int .i64 p)) (e2 : bs[5]? = some (.slice Ab m cb)) (h : LS w base 3 1 63 Ab m cb ps css) (hs : ∀ cs ∈ css, cs.length ≤ K * 1) (hm : m ≤ 1000000) (h0 : id0 ≤ 1000000) (p0 : 0 ≤ p) (p1 : p ≤ 1) (hK : K ≤ 1000000) :
    Calls Tryz.prog 130 #[.pointer (some ⟨gk, 0, none⟩), .int .i64 (id0 : Int)] w (WriteN base m cb id0 gk p Ab ps bs w) := by
  have HS := hideIt hs
  have E1 := hideIt e1
  have E2 := hideIt e2
  clear hs e1 e2
  go_enter Tryz.func130, Tryz.ntmps130
  go_wp2
  go_loopw [1, 5] (fun dd ii wr => ∃ (i id : Nat) (css' : List (List Value)), i ≤ m ∧ Hid (id = id0 + i) ∧ dd = .int .i64 (id : Int) ∧ ii = .int .i64 (i : Int) ∧ LS wr base 3 1 63 Ab m cb ps css' ∧ Hid (∀ cs ∈ css', cs.length ≤ K * 1) ∧ Hid (MarkR (mkN p) id0 i css') ∧ Bk wr gk bs ∧ Out (InPs ps) w wr)
    (fun _ ii _ => m - (intOf ii).toNat)
  case atStart => exact ⟨0, id0, css, by omega, hideIt rfl, rfl, rfl, h, HS, hideIt (fun j cs hj => by omega), hk, Out.refl _ _⟩
  case round =>
    clear HS h hk
    obtain ⟨i, id, css', hi, HI, rfl, rfl, ls, HS, HM, bk, bw⟩ := hrel
    have c1 := OC.cell bk 1 _ E1.out
    have c2 := OC.cell bk 5 _ E2.out
    by_cases hlt : i < m
    · obtain ⟨gr, q, cs, rfl, orow, hq, hc, cell, gc⟩ := ls.at_ i hlt
      obtain ⟨A1, n1, k1⟩ := q
      have cl : cs.length = n1 * 1 := gc.len
      have HLEN : Hid (n1 * 1 ≤ K * 1) := hideIt (by have h1 := HS.out cs (List.mem_of_getElem? hc); rw [cl] at h1; exact h1)
      have n1l : n1 ≤ 1000000 := by have h1 := HS.out cs (List.mem_of_getElem? hc); rw [cl] at h1; omega
      have HQ := hideIt hq
      have i1 : (i : Int) < (m : Int) := by omega
      have idl : id ≤ 2000000 := by rw [HI.out]; omega
      obtain ⟨I, hI⟩ : ∃ I, id + 1 = I := ⟨_, rfl⟩
      have hIz : (id : Int) + 1 = (I : Int) := by omega
      have HI1 := hideIt hI
      have HIz := hideIt hIz
      clear hI hIz
      have HC : Hid (cs.length = n1 * 1 ∧ cs.take (0 * 1) = runs (mkN p I) 0) := hideIt ⟨cl, by simp [runs]⟩
      have LS0 : LS wr base 3 1 63 (some ⟨gr, 0, none⟩) m cb ps (css'.set i cs) := by
        rw [set_self hc]; exact ls
      clear ls hq hc gc orow cl c1
      go_wp2
      clear cell c2
      obtain ⟨wo, hwo⟩ : ∃ wo, wo = wr := ⟨_, rfl⟩
      go_loopw [6] (fun jj wk => ∃ (j : Nat) (xs : List Value), j ≤ n1 ∧ jj = .int .i64 (j : Int) ∧ Hid (xs.length = n1 * 1 ∧ xs.take (j * 1) = runs (mkN p I) j) ∧ LS wk base 3 1 63 (some ⟨gr, 0, none⟩) m cb ps (css'.set i xs) ∧ Bk wk gk bs ∧ Out (InPs ps) w wk)
        (fun jj _ => n1 - (intOf jj).toNat)
      case atStart => exact ⟨0, cs, by omega, rfl, HC, LS0, bk, bw⟩
      case round =>
        clear HC LS0 bk bw hwo
        obtain ⟨j, xs, hj, rfl, HX, ls, bk, bw⟩ := hrel
        have il : i < css'.length := by rw [← List.length_set (i := i) (a := xs), ← ls.len, ls.n]; exact hlt
        have hci : (css'.set i xs)[i]? = some xs := List.getElem?_set_self il
        obtain ⟨gr', q', cs', e', orow, hq', hc', cell, gc⟩ := ls.at_ i hlt
        cases e'
        obtain rfl : q' = (A1, n1, k1) := Option.some.inj (hq'.symm.trans HQ.out)
        obtain rfl : cs' = xs := Option.some.inj (hc'.symm.trans hci)
        simp only at cell gc
        have c1 := OC.cell bk 1 _ E1.out
        have c2 := OC.cell bk 5 _ E2.out
        by_cases hlj : j < n1
        · rcases gc.oc with ⟨_, z, _⟩ | ⟨g1, rfl, hg1, o1⟩
          · omega
          have fr := OC.free o1 j
          obtain ⟨u0, hu0⟩ : ∃ u0, cs'[j]? = some u0 := ⟨_, List.getElem?_eq_getElem (by rw [HX.out.1]; omega)⟩
          have cj := OC.cell o1 j u0 hu0
          have MK := fun W hW => intsMark_calls gk p ((id : Int) + 1) I j W hW HIz.out p0 p1 (by have := HI1.out; omega) (by omega)
          have LT := fun u => ls.turn (by decide) i j g1 n1 k1 cs' u hq' hci
          have BT := fun u => Bk.same bk (Sm.setCell wr ⟨g1, j, none⟩ u (by rintro rfl; exact absurd (OC.tyy bk o1) (by decide)))
          have gx := fun u => gset wr g1 j u
          obtain ⟨mk, hmk⟩ : ∃ mk : Int, (I : Int) * 1000 + 2 * (j : Int) + p = mk := ⟨_, rfl⟩
          simp only [hmk] at MK
          have HX2 : Hid ((cs'.set j (.int .i64 mk)).length = n1 * 1 ∧ (cs'.set j (.int .i64 mk)).take ((j + 1) * 1) = runs (mkN p I) (j + 1)) := hideIt (by
            have PS := putL_step (sz := 1) HX.out.1 HX.out.2 hlj (rfl : (mkN p I j).length = 1)
            have e : putL cs' (j * 1) (mkN p I j) = cs'.set j (.int .i64 mk) := by rw [Nat.mul_one, ← hmk]; rfl
            rw [← e]; exact PS)
          have LT' := (LT (.int .i64 mk)).below (drew1 _)
          have BT' := (BT (.int .i64 mk)).below (drew1 _)
          have b2 := (bw.grow (gx (.int .i64 mk)) (fun g hg => by cases hg; exact Or.inl (InPs.at_ hq'))).drew
          rw [List.set_set] at LT'
          have c2s := OC.cell BT' 5 _ E2.out
          have cells : (wr.setCell ⟨g1, j, none⟩ (.int .i64 mk)).drew.cell? ⟨gr, i, none⟩ = some (.slice (some ⟨g1, 0, none⟩) n1 k1) := cell_sm cell (Sm.setCell wr ⟨g1, j, none⟩ _ (by rintro rfl; exact absurd (OC.tyy orow o1) (by decide)))
          have hmkv := hideIt hmk
          have i2 : (j : Int) < (n1 : Int) := by omega
          clear LT BT gx hmk ls bk bw o1 gc hq' hc' hci hu0 orow
          have c1d : wr.drew.cell? ⟨gk, 1, none⟩ = some (.int .i64 p) := c1
          have c2d : wr.drew.cell? ⟨gk, 5, none⟩ = some (.slice (some ⟨gr, 0, none⟩) m cb) := c2
          have celld : wr.drew.cell? ⟨gr, i, none⟩ = some (.slice (some ⟨g1, 0, none⟩) n1 k1) := cell
          go_wp2
          go_region_held3 (fun w' => w'.cell? ⟨gk, 5, none⟩ = some (.slice (some ⟨gr, 0, none⟩) m cb) ∧ w'.cell? ⟨gr, i, none⟩ = some (.slice (some ⟨g1, 0, none⟩) n1 k1)) (first | exact ⟨c2d, celld⟩ | exact ⟨c2s, cells⟩ | go_keep)
            (first
              | (go_at_call 194; (with_reducible refine (MK _ c1d).mono ?_); rintro en wx ⟨rfl, rfl⟩))
          go_wp2
          go_roundw
          case rel => exact ⟨j + 1, _, by omega, by go_num, HX2, LT', BT', b2⟩
          case measure => simp [intOf]; omega
        · obtain rfl : n1 = j := by omega
          have HM2 : Hid (MarkR (mkN p) id0 (i + 1) (css'.set i cs')) := hideIt ((HM.out.set (Nat.le_refl _) cs').more fun cs0 h0 => by
            rw [hci] at h0
            cases h0
            have := HX.out.2
            rw [← HX.out.1, List.take_length, ← HI1.out, HI.out] at this
            exact ⟨_, this⟩)
          have HS2 : Hid (∀ cs ∈ css'.set i cs', cs.length ≤ K * 1) := hideIt fun c0 h0 => by
            rcases List.mem_or_eq_of_mem_set h0 with q | q
            · exact HS.out c0 q
            · rw [q, HX.out.1]
              exact HLEN.out
          have HI2 : Hid (id + 1 = id0 + (i + 1)) := hideIt (by rw [HI.out]; omega)
          clear hq' hc' hci orow gc
          go_wp2
          go_roundw
          case rel => exact ⟨i + 1, id + 1, _, by omega, HI2, by go_num, by go_num, ls, HS2, HM2, bk, bw⟩
          case measure => simp [intOf]; omega
    · obtain rfl : m = i := by omega
      have e : Ending.returned (.int .i64 (id : Int)) = .returned (.int .i64 ((id0 + m : Nat) : Int)) := by rw [HI.out]
      have E := hideIt e
      clear e
      go_wp2
      go_ret
      exact ⟨css', E.out, ls, HM.out, bk, bw⟩
end Go.Proofs.YtmeakhiiebeneaaGreatDoor
