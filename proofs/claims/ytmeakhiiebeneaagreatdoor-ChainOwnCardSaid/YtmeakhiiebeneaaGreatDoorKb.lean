/- coppicekept.Book, lists of bytes: bytesMark, bytesShow, bytesUntouched, bytesWrite, bytesHold. -/
import Derived.Test.YtmeakhiiebeneaaGreatDoorKa
import Derived.Test.YtmeakhiiebeneaaGreatDoorM1
import Derived.Deep.QuietTactic
import Derived.BigQuiet
import Derived.BigRegion
import Derived.WalkLawsBesides
namespace Go.Proofs.YtmeakhiiebeneaaGreatDoor
open Go.RowKit

/-- The book: one block of 41 cells. -/
def Bk (w : World) (gk : Nat) (cs : List Value) : Prop := OC w 39 1 gk 41 41 cs
theorem Bk.below {w w' : World} {gk : Nat} {cs : List Value} (h : Bk w gk cs) (b : Below w.heap.size w w') : Bk w' gk cs := OC.below h b
theorem Bk.same {w w' : World} {gk : Nat} {cs : List Value} (h : Bk w gk cs) (b : Sm w w' gk) : Bk w' gk cs := OC.same h b

/-- The mark of element j of the list number id. -/
def mkB (p : Int) (id j : Nat) : UInt8 := if p = 1 then UInt8.ofNat (id * 97 + j * 31) else UInt8.ofNat (id / 256 * 59 + j * 13 + id % 256 * 3 + 1)
def marksB (p : Int) (id n : Nat) : List UInt8 := (List.range n).map (mkB p id)
theorem marksB_length (p : Int) (id n : Nat) : (marksB p id n).length = n := by simp [marksB]
theorem marksB_succ (p : Int) (id n : Nat) : marksB p id (n + 1) = marksB p id n ++ [mkB p id n] := by simp [marksB, List.range_succ]
theorem marksB_get (p : Int) (id n j : Nat) (h : j < n) : (u8s (marksB p id n))[j]? = some (.int .u8 ((mkB p id j).toNat : Int)) := by simp [marksB, u8s, h]
theorem ret_u8 {a b : Int} (h : a = b) : Ending.returned (.int .u8 a) = Ending.returned (.int .u8 b) := by rw [h]

set_option maxHeartbeats 1000000 in
theorem bytesMark_calls (gk : Nat) (p : Int) (id j : Nat) (w : World) (hp : w.cell? ⟨gk, 1, none⟩ = some (.int .i64 p)) (h1 : id ≤ 1000000000) (h2 : j ≤ 1000000000) :
    Calls Tryz.prog 193 #[.pointer (some ⟨gk, 0, none⟩), .int .i64 (id : Int), .int .i64 (j : Int)] w fun e w' => e = .returned (.int .u8 ((mkB p id j).toNat : Int)) ∧ w = w' := by
  by_cases hq : p = 1
  · subst hq
    have e : ((mkB 1 id j).toNat : Int) = ((id : Int) * 97 + (j : Int) * 31) % 256 := by
      unfold mkB; rw [if_pos rfl, UInt8.toNat_ofNat']; omega
    rw [e]
    clear e
    go_enter Tryz.func193, Tryz.ntmps193
    go_wp2
    go_ret
    exact ⟨rfl, rfl⟩
  · have e : ((mkB p id j).toNat : Int) = ((id : Int) / 256 * 59 + (j : Int) * 13 + (id : Int) % 256 * 3 + 1) % 256 := by
      unfold mkB; rw [if_neg hq, UInt8.toNat_ofNat']; omega
    have t1 : (p == 1) = false := beq_eq_false_iff_ne.2 hq
    rw [e]
    clear e hq
    go_enter Tryz.func193, Tryz.ntmps193
    go_wp2
    go_ret
    exact ⟨rfl, rfl⟩

theorem bytesMark_of (gk : Nat) (p z : Int) (id j : Nat) (w : World) (hp : w.cell? ⟨gk, 1, none⟩ = some (.int .i64 p)) (hz : z = (id : Int)) (h1 : id ≤ 1000000000) (h2 : j ≤ 1000000000) :
    Calls Tryz.prog 193 #[.pointer (some ⟨gk, 0, none⟩), .int .i64 z, .int .i64 (j : Int)] w fun e w' => e = .returned (.int .u8 ((mkB p id j).toNat : Int)) ∧ w = w' := by
  subst hz; exact bytesMark_calls gk p id j w hp h1 h2
set_option maxHeartbeats 1000000 in
theorem bytesShow_calls (gk : Nat) (p : Int) (id : Nat) (A : Option Addr) (n c : Nat) (w : World) (hp : w.cell? ⟨gk, 1, none⟩ = some (.int .i64 p)) (h : RC w 1 A n c (u8s (marksB p id n))) (h1 : id ≤ 1000000000) (h2 : n ≤ 1000000000) :
    Calls Tryz.prog 206 #[.pointer (some ⟨gk, 0, none⟩), .slice A n c, .int .i64 (id : Int)] w fun e w' => e = .returned (.bool true) ∧ w = w' := by
  go_enter Tryz.func206, Tryz.ntmps206
  go_wp2
  go_loop [7] (fun jj => ∃ j : Nat, j ≤ n ∧ jj = .int .i64 (j : Int)) (fun jj => n - (intOf jj).toNat)
  case atStart => exact ⟨0, by omega, rfl⟩
  case round =>
    obtain ⟨j, hj, rfl⟩ := hrel
    by_cases hlt : j < n
    · obtain ⟨ad, u, rfl, hu, cell⟩ := h.at_ j hlt
      rw [marksB_get p id n j hlt] at hu
      cases hu
      have MK := bytesMark_calls gk p id j w hp h1 (by omega)
      generalize ((mkB p id j).toNat : Int) = v at cell MK
      have i1 : (j : Int) < (n : Int) := by omega
      go_wp2_with (go_at_call 193; refine MK.mono ?_; rintro en wx ⟨rfl, rfl⟩)
      go_round
      case rel => exact ⟨j + 1, by omega, by go_num⟩
      case measure => simp [intOf]; omega
    · obtain rfl : n = j := by omega
      go_wp2
      go_ret
      exact ⟨rfl, rfl⟩

theorem bytesShow_of (gk : Nat) (p z : Int) (id : Nat) (A : Option Addr) (n c : Nat) (w : World) (hp : w.cell? ⟨gk, 1, none⟩ = some (.int .i64 p)) (hz : z = (id : Int)) (h : RC w 1 A n c (u8s (marksB p id n))) (h1 : id ≤ 1000000000) (h2 : n ≤ 1000000000) :
    Calls Tryz.prog 206 #[.pointer (some ⟨gk, 0, none⟩), .slice A n c, .int .i64 z] w fun e w' => e = .returned (.bool true) ∧ w = w' := by
  subst hz; exact bytesShow_calls gk p id A n c w hp h h1 h2
/-- Each list shows its own marks (the first one those behind id0). -/
def MarkedB (p : Int) (id0 k : Nat) (css : List (List Value)) : Prop := ∀ j cs, j < k → css[j]? = some cs → cs = u8s (marksB p (id0 + j + 1) cs.length)
def ShortB (css : List (List Value)) : Prop := ∀ cs ∈ css, cs.length ≤ 1000000
theorem ShortB.at_ {css : List (List Value)} (h : ShortB css) {j : Nat} {cs : List Value} (k : css[j]? = some cs) : cs.length ≤ 1000000 := h cs (List.mem_of_getElem? k)
theorem MarkedB.more {p : Int} {id0 k : Nat} {css : List (List Value)} (h : MarkedB p id0 k css) (hk : ∀ cs, css[k]? = some cs → cs = u8s (marksB p (id0 + k + 1) cs.length)) : MarkedB p id0 (k + 1) css := fun j cs hj hc => by
  rcases Nat.lt_or_ge j k with q | q
  · exact h j cs q hc
  · obtain rfl : j = k := by omega
    exact hk cs hc
theorem MarkedB.set {p : Int} {id0 k i : Nat} {css : List (List Value)} (h : MarkedB p id0 k css) (hi : k ≤ i) (cs : List Value) : MarkedB p id0 k (css.set i cs) := fun j cs' hj hc => by
  rw [List.getElem?_set, if_neg (by omega)] at hc
  exact h j cs' hj hc

set_option maxRecDepth 100000 in
set_option maxHeartbeats 2000000 in
theorem bytesUntouched_calls (gk m cb cw : Nat) (Ab Aw : Option Addr) (vs vs' : List Value) (xss : List (List UInt8)) (w : World) (c2 : w.cell? ⟨gk, 2, none⟩ = some (.slice Ab m cb)) (c3 : w.cell? ⟨gk, 3, none⟩ = some (.slice Aw m cw)) (h : RM w Ab m cb vs xss) (h' : RM w Aw m cw vs' xss) (hm : m ≤ 1000000) :
    Calls Tryz.prog 116 #[.pointer (some ⟨gk, 0, none⟩)] w fun e w' => e = .returned (.bool true) ∧ ∃ j, w' = w.drewN j := by
  go_enter Tryz.func116, Tryz.ntmps116
  go_wp2
  go_loopw [3] (fun ii wr => ∃ i j : Nat, i ≤ m ∧ ii = .int .i64 (i : Int) ∧ Hid (wr = w.drewN j))
    (fun ii _ => m - (intOf ii).toNat)
  case atStart => exact ⟨0, 0, by omega, rfl, hideIt (by rfl)⟩
  case round =>
    obtain ⟨i, j, hi, rfl, HW⟩ := hrel
    have c2' : wr.cell? ⟨gk, 2, none⟩ = some (.slice Ab m cb) := by rw [HW.out]; exact c2
    have c3' : wr.cell? ⟨gk, 3, none⟩ = some (.slice Aw m cw) := by rw [HW.out]; exact c3
    have hr1 : RM wr Ab m cb vs xss := by rw [HW.out]; exact h.below (below_drewN (Below.refl _ _) j)
    have hr2 : RM wr Aw m cw vs' xss := by rw [HW.out]; exact h'.below (below_drewN (Below.refl _ _) j)
    by_cases hlt : i < m
    · obtain ⟨ad, A1, n1, c1, x, rfl, hx, cx, rx⟩ := hr1.row i hlt
      obtain ⟨ad', A2, n2, c2n, y, rfl, hy, cy, ry⟩ := hr2.row i hlt
      obtain rfl : x = y := Option.some.inj (hx.symm.trans hy)
      have i1 : (i : Int) < (m : Int) := by omega
      have con : ∀ q, Calls Tryz.prog 12 #[.slice A1 n1 c1, .slice A2 n2 c2n] (wr.drewN q) fun e w' => e = .returned (.bool true) ∧ w' = wr.drewN q := fun q =>
        (SameBytes_calls _ _ _ _ _ _ _ _ _ (rx.below (below_drewN (Below.refl _ _) q)) (ry.below (below_drewN (Below.refl _ _) q)) true (by simp)).mono fun _ _ ⟨a, b⟩ => ⟨a, b.symm⟩
      clear hx hy hr1 hr2
      go_wp2
      go_quiet (first | (go_at_call 12; exact Calls.quiet_of_same (con _)))
      go_wp2
      go_roundw
      case rel => exact ⟨i + 1, j + nq, by omega, by go_num, hideIt (by rw [HW.out, World.drewN_drewN])⟩
      case measure => simp [intOf]; omega
    · obtain rfl : m = i := by omega
      clear hr1 hr2
      go_wp2
      go_ret
      exact ⟨rfl, j, HW.out⟩

theorem set_self {α : Type} {l : List α} {i : Nat} {x : α} (h : l[i]? = some x) : l.set i x = l := by
  obtain ⟨hi, rfl⟩ := List.getElem?_eq_some_iff.1 h
  exact List.set_getElem_self hi
theorem u8s_none (xs : List UInt8) : (u8s xs).length = xs.length := u8s_length xs
def WriteB (base m cb id0 gk : Nat) (p : Int) (Ab : Option Addr) (ps : List Slot) (bs : List Value) (w : World) (e : Ending) (w' : World) : Prop :=
  ∃ css', e = .returned (.int .i64 ((id0 + m : Nat) : Int)) ∧ LS w' base 5 1 40 Ab m cb ps css' ∧ ShortB css' ∧ MarkedB p id0 m css' ∧ Bk w' gk bs ∧ Out (InPs ps) w w'
set_option maxRecDepth 100000 in
set_option maxHeartbeats 4000000 in
theorem bytesWrite_calls (gk base m cb id0 : Nat) (p : Int) (Ab : Option Addr) (ps : List Slot) (bs : List Value) (css : List (List Value)) (w : World) (hk : Bk w gk bs) (e1 : bs[1]? = some (.int .i64 p)) (e2 : bs[2]? = some (.slice Ab m cb)) (h : LS w base 5 1 40 Ab m cb ps css) (hs : ShortB css) (hm : m ≤ 1000000) (h0 : id0 ≤ 1000000) :
    Calls Tryz.prog 129 #[.pointer (some ⟨gk, 0, none⟩), .int .i64 (id0 : Int)] w (WriteB base m cb id0 gk p Ab ps bs w) := by
  have HS := hideIt hs
  have E1 := hideIt e1
  have E2 := hideIt e2
  clear hs e1 e2
  go_enter Tryz.func129, Tryz.ntmps129
  go_wp2
  go_loopw [1, 5] (fun dd ii wr => ∃ (i id : Nat) (css' : List (List Value)), i ≤ m ∧ Hid (id = id0 + i) ∧ dd = .int .i64 (id : Int) ∧ ii = .int .i64 (i : Int) ∧ LS wr base 5 1 40 Ab m cb ps css' ∧ Hid (ShortB css') ∧ Hid (MarkedB p id0 i css') ∧ Bk wr gk bs ∧ Out (InPs ps) w wr)
    (fun _ ii _ => m - (intOf ii).toNat)
  case atStart => exact ⟨0, id0, css, by omega, hideIt rfl, rfl, rfl, h, HS, hideIt (fun j cs hj => by omega), hk, Out.refl _ _⟩
  case round =>
    clear HS h hk
    obtain ⟨i, id, css', hi, HI, rfl, rfl, ls, HS, HM, bk, bw⟩ := hrel
    have c1 := OC.cell bk 1 _ E1.out
    have c2 := OC.cell bk 2 _ E2.out
    by_cases hlt : i < m
    · obtain ⟨gr, q, cs, rfl, orow, hq, hc, cell, gc⟩ := ls.at_ i hlt
      obtain ⟨A1, n1, k1⟩ := q
      have cl : cs.length = n1 := by have := gc.len; simp only at this; omega
      have n1l : n1 ≤ 1000000 := by rw [← cl]; exact HS.out.at_ hc
      have HQ := hideIt hq
      have i1 : (i : Int) < (m : Int) := by omega
      have idl : id ≤ 2000000 := by rw [HI.out]; omega
      have HC : Hid (cs.length = n1 ∧ cs.take 0 = u8s (marksB p (id + 1) 0)) := hideIt ⟨cl, rfl⟩
      have LS0 : LS wr base 5 1 40 (some ⟨gr, 0, none⟩) m cb ps (css'.set i cs) := by
        rw [set_self hc]; exact ls
      clear ls hq hc gc orow cl c1
      go_wp2
      clear cell c2
      obtain ⟨wo, hwo⟩ : ∃ wo, wo = wr := ⟨_, rfl⟩
      go_loopw [6] (fun jj wk => ∃ (j : Nat) (xs : List Value), j ≤ n1 ∧ jj = .int .i64 (j : Int) ∧ Hid (xs.length = n1 ∧ xs.take j = u8s (marksB p (id + 1) j)) ∧ LS wk base 5 1 40 (some ⟨gr, 0, none⟩) m cb ps (css'.set i xs) ∧ Bk wk gk bs ∧ Out (InPs ps) w wk)
        (fun jj _ => n1 - (intOf jj).toNat)
      case atStart => exact ⟨0, cs, by omega, rfl, HC, LS0, bk, bw⟩
      case round =>
        clear HC LS0 bk bw hwo
        obtain ⟨j, xs, hj, rfl, HX, ls, bk, bw⟩ := hrel
        have il : i < css'.length := by rw [← List.length_set (i := i) (a := xs), ← ls.len, ls.n]; exact hlt
        have hci : (css'.set i xs)[i]? = some xs := List.getElem?_set_self il
        obtain ⟨gr', q', cs', e', orow, hq', hc', cell, gc⟩ := ls.at_ i hlt
        cases e'
        obtain rfl : q' = (A1, n1, k1) := Option.some.inj (hq'.symm.trans HQ.out)
        obtain rfl : cs' = xs := Option.some.inj (hc'.symm.trans hci)
        simp only at cell gc
        have c1 := OC.cell bk 1 _ E1.out
        have c2 := OC.cell bk 2 _ E2.out
        by_cases hlj : j < n1
        · rcases gc.oc with ⟨_, z, _⟩ | ⟨g1, rfl, hg1, o1⟩
          · omega
          have fr := o1.free j
          obtain ⟨u0, hu0⟩ : ∃ u0, cs'[j]? = some u0 := ⟨_, List.getElem?_eq_getElem (by rw [HX.out.1]; exact hlj)⟩
          have cj := OC.cell o1 j u0 hu0
          have MK := fun W hW => bytesMark_of gk p ((id : Int) + 1) (id + 1) j W hW (by omega) (by omega) (by omega)
          have LT := fun u => ls.turn (by decide) i j g1 n1 k1 cs' u hq' hci
          have BT := fun u => Bk.same bk (Sm.setCell wr ⟨g1, j, none⟩ u (by rintro rfl; exact absurd (OC.tyy bk o1) (by decide)))
          have gx := fun u => gset wr g1 j u
          generalize hmk : mkB p (id + 1) j = mk at MK
          have HX2 : Hid ((cs'.set j (.int .u8 (mk.toNat : Int))).length = n1 ∧ (cs'.set j (.int .u8 (mk.toNat : Int))).take (j + 1) = u8s (marksB p (id + 1) (j + 1))) := hideIt ⟨by rw [List.length_set]; exact HX.out.1, by
            have lt : (cs'.take j).length = j := by rw [List.length_take, HX.out.1]; omega
            rw [marksB_succ, u8s_append, ← HX.out.2, hmk, List.take_set, List.take_add_one, hu0]
            show (cs'.take j ++ [u0]).set j _ = _
            rw [List.set_append_right _ _ (by omega), lt, Nat.sub_self]
            rfl⟩
          have LT' := (LT (.int .u8 (mk.toNat : Int))).below (drew1 _)
          have BT' := (BT (.int .u8 (mk.toNat : Int))).below (drew1 _)
          have b2 := (bw.grow (gx (.int .u8 (mk.toNat : Int))) (fun g hg => by cases hg; exact Or.inl (InPs.at_ hq'))).drew
          rw [List.set_set] at LT'
          have c2s := OC.cell BT' 2 _ E2.out
          have cells : (wr.setCell ⟨g1, j, none⟩ (.int .u8 (mk.toNat : Int))).drew.cell? ⟨gr, i, none⟩ = some (.slice (some ⟨g1, 0, none⟩) n1 k1) := cell_sm cell (Sm.setCell wr ⟨g1, j, none⟩ _ (by rintro rfl; exact absurd (OC.tyy orow o1) (by decide)))
          have hmkv := hideIt hmk
          have i2 : (j : Int) < (n1 : Int) := by omega
          clear LT BT gx hmk ls bk bw o1 gc hq' hc' hci hu0 orow
          have c1d : wr.drew.cell? ⟨gk, 1, none⟩ = some (.int .i64 p) := c1
          have c2d : wr.drew.cell? ⟨gk, 2, none⟩ = some (.slice (some ⟨gr, 0, none⟩) m cb) := c2
          have celld : wr.drew.cell? ⟨gr, i, none⟩ = some (.slice (some ⟨g1, 0, none⟩) n1 k1) := cell
          go_wp2
          go_region_held3 (fun w' => w'.cell? ⟨gk, 2, none⟩ = some (.slice (some ⟨gr, 0, none⟩) m cb) ∧ w'.cell? ⟨gr, i, none⟩ = some (.slice (some ⟨g1, 0, none⟩) n1 k1)) (first | exact ⟨c2d, celld⟩ | exact ⟨c2s, cells⟩ | go_keep)
            (first
              | (go_at_call 193; (with_reducible refine (MK _ c1d).mono ?_); rintro en wx ⟨rfl, rfl⟩))
          go_wp2
          go_roundw
          case rel => exact ⟨j + 1, _, by omega, by go_num, HX2, LT', BT', b2⟩
          case measure => simp [intOf]; omega
        · obtain rfl : n1 = j := by omega
          have HM2 : Hid (MarkedB p id0 (i + 1) (css'.set i cs')) := hideIt ((HM.out.set (Nat.le_refl _) cs').more fun cs0 h0 => by
            rw [hci] at h0
            cases h0
            have := HX.out.2
            rw [← HX.out.1, List.take_length, HX.out.1, HI.out] at this
            rw [HX.out.1]; exact this)
          have HS2 : Hid (ShortB (css'.set i cs')) := hideIt fun c0 h0 => by
            rcases List.mem_or_eq_of_mem_set h0 with q | q
            · exact HS.out c0 q
            · rw [q, HX.out.1]; exact n1l
          have HI2 : Hid (id + 1 = id0 + (i + 1)) := hideIt (by rw [HI.out]; omega)
          clear hq' hc' hci orow gc
          go_wp2
          go_roundw
          case rel => exact ⟨i + 1, id + 1, _, by omega, HI2, by go_num, by go_num, ls, HS2, HM2, bk, bw⟩
          case measure => simp [intOf]; omega
    · obtain rfl : m = i := by omega
      have e : Ending.returned (.int .i64 (id : Int)) = .returned (.int .i64 ((id0 + m : Nat) : Int)) := by rw [HI.out]
      have E := hideIt e
      clear e
      go_wp2
      go_ret
      exact ⟨css', E.out, ls, HS.out, HM.out, bk, bw⟩
end Go.Proofs.YtmeakhiiebeneaaGreatDoor
