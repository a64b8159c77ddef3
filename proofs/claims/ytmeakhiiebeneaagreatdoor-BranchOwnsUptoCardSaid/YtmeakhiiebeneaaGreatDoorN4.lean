/- Words: a value of several cells stored into a list that is kept. -/
import Derived.Test.YtmeakhiiebeneaaGreatDoorN1
import Derived.Test.YtmeakhiiebeneaaGreatDoorM1
import Derived.Deep.QuietTactic
import Derived.BigQuiet
import Derived.BigRegion
import Derived.WalkLawsBesides
import Derived.Deep.CutRange
namespace Go.Proofs.YtmeakhiiebeneaaGreatDoor
open Go.RowKit

def putL (cs : List Value) (q : Nat) : List Value → List Value
  | [] => cs
  | v :: r => putL (cs.set q v) (q + 1) r
theorem putL_length (vs cs : List Value) (q : Nat) : (putL cs q vs).length = cs.length := by
  induction vs generalizing cs q with
  | nil => rfl
  | cons v r ih => rw [putL, ih, List.length_set]
theorem putL_take (vs cs : List Value) (q : Nat) (h : q + vs.length ≤ cs.length) : (putL cs q vs).take (q + vs.length) = cs.take q ++ vs := by
  induction vs generalizing cs q with
  | nil => simp [putL]
  | cons v r ih =>
    have hl : q < cs.length := by simp at h; omega
    rw [putL, List.length_cons, show q + (r.length + 1) = q + 1 + r.length by omega, ih _ _ (by rw [List.length_set]; simp at h; omega)]
    rw [List.take_add_one, List.take_set_of_le (Nat.le_refl _), List.getElem?_set_self hl]
    simp
theorem putL_step {cs : List Value} {n j sz : Nat} {mk : Nat → List Value} (hl : cs.length = n * sz) (ht : cs.take (j * sz) = runs mk j) (hj : j < n) (hm : (mk j).length = sz) : (putL cs (j * sz) (mk j)).length = n * sz ∧ (putL cs (j * sz) (mk j)).take ((j + 1) * sz) = runs mk (j + 1) := by
  refine ⟨by rw [putL_length, hl], ?_⟩
  have hle : j * sz + (mk j).length ≤ cs.length := by
    rw [hm, hl]
    have := Nat.mul_le_mul_right sz (show j + 1 ≤ n by omega)
    rw [Nat.add_mul, Nat.one_mul] at this
    exact this
  rw [show (j + 1) * sz = j * sz + (mk j).length by rw [hm, Nat.add_mul, Nat.one_mul], putL_take _ _ _ hle, ht, runs_succ]
theorem OC.cellN {w : World} {e sz g n c : Nat} {cs : List Value} (h : OC w e sz g n c cs) (k : Nat) (u : Value) (hu : cs[k]? = some u) : w.cell? ⟨g, k, none⟩ = some u := by
  have := h.read.cell ⟨g, 0, none⟩ rfl k u hu
  rcases Nat.eq_zero_or_pos k with rfl | hk
  · exact this
  · obtain ⟨k, rfl⟩ : ∃ q, k = q + 1 := ⟨k - 1, by omega⟩
    rw [Addr.add_succ'] at this
    simpa using this
theorem OC.hasN {w : World} {e sz g n c k : Nat} {cs : List Value} (h : OC w e sz g n c cs) (hk : k < n * sz) : ∃ u, w.cell? ⟨g, k, none⟩ = some u := by
  obtain ⟨u, hu⟩ : ∃ u, cs[k]? = some u := ⟨_, List.getElem?_eq_getElem (by rw [h.1]; exact hk)⟩
  exact ⟨u, h.cellN k u hu⟩
theorem grownBy_set' (w : World) (g j : Nat) (v : Value) : w.grownBy (w.setCell ⟨g, j, none⟩ v) (some g) :=
  ⟨rfl, rfl, rfl, by simp [World.setCell], fun k _ hk => Below.heap_setCell w _ v k (by intro e; exact hk (by rw [e]))⟩
theorem LS.turn2 {w : World} {base e sz rt n c : Nat} {A : Option Addr} {ps : List Slot} {css : List (List Value)} (h : LS w base e sz rt A n c ps css) (ne : e ≠ rt) (i q g nn cc : Nat) (cs : List Value) (a b : Value) (hp : ps[i]? = some (some ⟨g, 0, none⟩, nn, cc)) (hs : css[i]? = some cs) :
    LS ((w.setCell ⟨g, q, none⟩ a).setCell ⟨g, q + 1, none⟩ b) base e sz rt A n c ps (css.set i (putL cs q [a, b])) := by
  have il : i < css.length := (List.getElem?_eq_some_iff.1 hs).1
  have h1 := h.turn ne i q g nn cc cs a hp hs
  have h2 := h1.turn ne i (q + 1) g nn cc (cs.set q a) b hp (List.getElem?_set_self il)
  rw [List.set_set] at h2
  exact h2
theorem LS.turn4 {w : World} {base e sz rt n c : Nat} {A : Option Addr} {ps : List Slot} {css : List (List Value)} (h : LS w base e sz rt A n c ps css) (ne : e ≠ rt) (i q g nn cc : Nat) (cs : List Value) (a b d f : Value) (hp : ps[i]? = some (some ⟨g, 0, none⟩, nn, cc)) (hs : css[i]? = some cs) :
    LS ((((w.setCell ⟨g, q, none⟩ a).setCell ⟨g, q + 1, none⟩ b).setCell ⟨g, q + 2, none⟩ d).setCell ⟨g, q + 3, none⟩ f) base e sz rt A n c ps (css.set i (putL cs q [a, b, d, f])) := by
  have il : i < css.length := (List.getElem?_eq_some_iff.1 hs).1
  have h2 := h.turn2 ne i q g nn cc cs a b hp hs
  have h3 := h2.turn2 ne i (q + 2) g nn cc _ d f hp (List.getElem?_set_self il)
  rw [List.set_set] at h3
  exact h3
theorem RS.below {w w' : World} {sz n c : Nat} {A : Option Addr} {ps : List Slot} {css : List (List Value)} (h : RS w sz A n c ps css) (b : Below w.heap.size w w') : RS w' sz A n c ps css :=
  ⟨RC.below h.row b, h.len, fun j p cs k1 k2 => RC.below (h.each j p cs k1 k2) b⟩
end Go.Proofs.YtmeakhiiebeneaaGreatDoor
namespace Go.Proofs.YtmeakhiiebeneaaGreatDoor
open Go.RowKit

def mkN (p : Int) (id j : Nat) : List Value := [.int .i64 ((id : Int) * 1000 + 2 * (j : Int) + p)]
set_option maxRecDepth 100000 in
set_option maxHeartbeats 1000000 in
theorem intsMark_calls (gk : Nat) (p z : Int) (id j : Nat) (w : World) (hp : w.cell? ⟨gk, 1, none⟩ = some (.int .i64 p)) (hz : z = (id : Int)) (p0 : 0 ≤ p) (p1 : p ≤ 1) (h1 : id ≤ 10000000) (h2 : j ≤ 10000000) :
    Calls Tryz.prog 194 #[.pointer (some ⟨gk, 0, none⟩), .int .i64 z, .int .i64 (j : Int)] w fun e w' => e = .returned (.int .i64 ((id : Int) * 1000 + 2 * (j : Int) + p)) ∧ w = w' := by
  subst hz
  have w1 : IntKind.i64.wrap ((id : Int) * 1000) = (id : Int) * 1000 := by rw [IntKind.wrap_i64]; omega
  have w2 : IntKind.i64.wrap (2 * (j : Int)) = 2 * (j : Int) := by rw [IntKind.wrap_i64]; omega
  have w3 : IntKind.i64.wrap ((id : Int) * 1000 + 2 * (j : Int)) = (id : Int) * 1000 + 2 * (j : Int) := by rw [IntKind.wrap_i64]; omega
  have w4 : IntKind.i64.wrap ((id : Int) * 1000 + 2 * (j : Int) + p) = (id : Int) * 1000 + 2 * (j : Int) + p := by rw [IntKind.wrap_i64]; omega
  go_enter Tryz.func194, Tryz.ntmps194
  go_wp2
  go_ret
  exact ⟨rfl, rfl⟩
set_option maxRecDepth 100000 in
set_option maxHeartbeats 1000000 in
theorem intsShow_calls (gk : Nat) (p z : Int) (id : Nat) (A : Option Addr) (n c : Nat) (w : World) (hp : w.cell? ⟨gk, 1, none⟩ = some (.int .i64 p)) (hz : z = (id : Int)) (p0 : 0 ≤ p) (p1 : p ≤ 1) (h : RC w 1 A n c (runs (mkN p id) n)) (h1 : id ≤ 10000000) (h2 : n ≤ 10000000) :
    Calls Tryz.prog 207 #[.pointer (some ⟨gk, 0, none⟩), .slice A n c, .int .i64 z] w fun e w' => e = .returned (.bool true) ∧ Below w.heap.size w w' := by
  subst hz
  go_enter Tryz.func207, Tryz.ntmps207
  go_wp2
  go_loop [7] (fun jj => ∃ j : Nat, j ≤ n ∧ jj = .int .i64 (j : Int)) (fun jj => n - (intOf jj).toNat)
  case atStart => exact ⟨0, by omega, rfl⟩
  case round =>
    obtain ⟨j, hj, rfl⟩ := hrel
    by_cases hlt : j < n
    · obtain ⟨ad, u, rfl, hu, cell⟩ := h.at_ j hlt
      have hu2 := runs_get (mkN p id) 1 (fun _ => rfl) n j 0 hlt (by decide)
      rw [Nat.mul_one, Nat.add_zero, hu] at hu2
      cases hu2
      have MK := intsMark_calls gk p (id : Int) id j w hp rfl p0 p1 h1 (by omega)
      generalize (id : Int) * 1000 + 2 * (j : Int) + p = v at cell MK
      have i1 : (j : Int) < (n : Int) := by omega
      clear hu
      go_wp2_with (go_at_call 194; refine MK.mono ?_; rintro en wx ⟨rfl, rfl⟩)
      go_round
      case rel => exact ⟨j + 1, by omega, by go_num⟩
      case measure => simp [intOf]; omega
    · obtain rfl : n = j := by omega
      go_wp2
      go_ret
      exact ⟨rfl, Below.refl _ _⟩
section
variable {w : World} {ops : Array Oper} {rest : List Oper} {o : Oper} {a : Act} {Q : Exit → Act → World → Prop}
theorem wpI_make (hg : o.guard = none) (l c : Operand) (hop : o.op = Op.makeSlice 63 l c) (kl kc : IntKind) (C : Int) (n : Nat) (hl : a.eval l = .int kl 0) (hc : a.eval c = .int kc C) (hC : C = (n : Int)) (hn : n ≤ 1000000)
    (h : ∀ g w', w.heap.size ≤ g → OC w' 3 1 g 0 n [] → w.grownBy w' none → wpList Tryz.prog ops Q rest (a.put o.dst (.slice (some ⟨g, 0, none⟩) 0 n)) w') : wpList Tryz.prog ops Q (o :: rest) a w := by
  obtain ⟨i0, hi, hz0, hz1, hz2⟩ := info_parts info_int
  exact wpList_make_own w hg l c 63 hop 0 3 i0 _ 1 Tryz.underlying63 hi hz0 hz1 kl kc C n hl hc hC (by rw [hz2]; omega) (by rw [maxLen_is]; omega) (Nat.zero_le _)
    fun w' h1 h2 => h _ w' (Nat.le_refl _) (OC.of_own h1) h2
end
abbrev GI (w : World) (b : Nat) (A : Option Addr) (n c : Nat) (l : List Int) : Prop := GC w b 3 1 A n c (i64s l)
set_option maxRecDepth 100000 in
set_option maxHeartbeats 2000000 in
theorem Ints_calls (A : Option Addr) (n c : Nat) (l : List Int) (w : World) (h : RI w A n c l) (hn : n ≤ 900000) :
    Calls Tryz.prog 30 #[.slice A n c] w fun e w' => ∃ (g c' : Nat), e = .returned (.slice (some ⟨g, 0, none⟩) n c') ∧ w.heap.size ≤ g ∧ OI w' g n c' l ∧ Below w.heap.size w w' := by
  have HL := hideIt h.len
  go_enter Tryz.func30, Tryz.ntmps30
  go_wp2_with (at_make; refine wpI_make rfl _ _ rfl _ _ _ n rfl rfl rfl (by omega) ?_; intro g1 w1 s1 o1 k1)
  have b1 := below_of_grown k1 (Nat.le_refl _) (by simp)
  have G0 : OI w1 g1 0 n (l.take 0) := o1
  clear k1 o1
  go_loopw [3, 4] (fun bb ii wr => ∃ (i c3 g3 : Nat), i ≤ n ∧ bb = .slice (some ⟨g3, 0, none⟩) i c3 ∧ ii = .int .i64 (i : Int) ∧ w.heap.size ≤ g3 ∧ OI wr g3 i c3 (l.take i) ∧ Below w.heap.size w wr)
    (fun _ ii _ => n - (intOf ii).toNat)
  case atStart => exact ⟨0, n, _, by omega, rfl, rfl, s1, G0, b1⟩
  case round =>
    clear G0 b1
    obtain ⟨i, c3, g3, hi, rfl, rfl, s3, gk, bw⟩ := hrel
    by_cases hlt : i < n
    · obtain ⟨ad, rfl, c1⟩ := (h.below bw).at_ i (by rw [HL.out]; exact hlt)
      have st : l.take (i + 1) = l.take i ++ [l[i]'(by rw [HL.out]; exact hlt)] := by rw [List.take_add_one, List.getElem?_eq_getElem (by rw [HL.out]; exact hlt)]; rfl
      have ST := hideIt st
      clear st
      generalize l[i]'(by rw [HL.out]; exact hlt) = x at c1 ST
      have ba := below1 wr (.cells #[.int .i64 x] 3)
      have gk1 : GI _ w.heap.size (some ⟨g3, 0, none⟩) i c3 (l.take i) := GC.below (GC.of gk s3) ba
      have K1 := RI.one wr x
      have b2 := blw_step bw ba
      have i1 : (i : Int) < (n : Int) := by omega
      go_wp2_with (with_reducible refine wpI_app rfl (.tmp 14) (.tmp 19) rfl w.heap.size _ _ _ _ rfl gk1 _ 1 1 [x] rfl K1 (by decide) (by omega) b2.size ?_; intro g4 c4 w4 q4 gk4 k4)
      have b4 := GC.under gk1 b2 k4 b2.size
      rw [← ST.out] at gk4
      go_roundw
      case rel => exact ⟨i + 1, c4, _, by omega, rfl, by go_num, q4, gk4, b4⟩
      case measure => simp [intOf]; omega
    · obtain rfl : n = i := by omega
      have ht : l.take n = l := List.take_of_length_le (by rw [HL.out]; exact Nat.le_refl _)
      rw [ht] at gk
      clear ht
      go_wp2
      go_ret
      exact ⟨_, _, rfl, s3, gk, bw⟩
end Go.Proofs.YtmeakhiiebeneaaGreatDoor
namespace Go.Proofs.YtmeakhiiebeneaaGreatDoor
open Go.RowKit

def WriteN (base m cb id0 gk : Nat) (p : Int) (Ab : Option Addr) (ps : List Slot) (bs : List Value) (w : World) (e : Ending) (w' : World) : Prop :=
  ∃ css', e = .returned (.int .i64 ((id0 + m : Nat) : Int)) ∧ LS w' base 3 1 63 Ab m cb ps css' ∧ MarkR (mkN p) id0 m css' ∧ Bk w' gk bs ∧ Out (InPs ps) w w'
set_option maxRecDepth 100000 in
set_option maxHeartbeats 8000000 in
theorem intsWrite_calls (gk base m cb id0 K : Nat) (p : Int) (Ab : Option Addr) (ps : List Slot) (bs : List Value) (css : List (List Value)) (w : World) (hk : Bk w gk bs) (e1 : bs[1]? = some (.int .i64 p)) (e2 : bs[5]? = some (.slice Ab m cb)) (h : LS w base 3 1 63 Ab m cb ps css) (hs : ∀ cs ∈ css, cs.length ≤ K * 1) (hm : m ≤ 1000000) (h0 : id0 ≤ 1000000) (p0 : 0 ≤ p) (p1 : p ≤ 1) (hK : K ≤ 1000000) :
    Calls Tryz.prog 130 #[.pointer (some ⟨gk, 0, none⟩), .int .i64 (id0 : Int)] w (WriteN base m cb id0 gk p Ab ps bs w) := by
  have HS := hideIt hs
  have E1 := hideIt e1
  have E2 := hideIt e2
  clear hs e1 e2
  go_enter Tryz.func130, Tryz.ntmps130
  go_wp2
  go_loopw [1, 5] (fun dd ii wr => ∃ (i id : Nat) (css' : List (List Value)), i ≤ m ∧ Hid (id = id0 + i) ∧ dd = .int .i64 (id : Int) ∧ ii = .int .i64 (i : Int) ∧ LS wr base 3 1 63 Ab m cb ps css' ∧ Hid (∀ cs ∈ css', cs.length ≤ K * 1) ∧ Hid (MarkR (mkN p) id0 i css') ∧ Bk wr gk bs ∧ Out (InPs ps) w wr)
    (fun _ ii _ => m - (intOf ii).toNat)
  case atStart => exact ⟨0, id0, css, by omega, hideIt rfl, rfl, rfl, h, HS, hideIt (fun j cs hj => by omega), hk, Out.refl _ _⟩
  case round =>
    clear HS h hk
    obtain ⟨i, id, css', hi, HI, rfl, rfl, ls, HS, HM, bk, bw⟩ := hrel
    have c1 := OC.cell bk 1 _ E1.out
    have c2 := OC.cell bk 5 _ E2.out
    by_cases hlt : i < m
    · obtain ⟨gr, q, cs, rfl, orow, hq, hc, cell, gc⟩ := ls.at_ i hlt
      obtain ⟨A1, n1, k1⟩ := q
      have cl : cs.length = n1 * 1 := gc.len
      have HLEN : Hid (n1 * 1 ≤ K * 1) := hideIt (by have h1 := HS.out cs (List.mem_of_getElem? hc); rw [cl] at h1; exact h1)
      have n1l : n1 ≤ 1000000 := by have h1 := HS.out cs (List.mem_of_getElem? hc); rw [cl] at h1; omega
      have HQ := hideIt hq
      have i1 : (i : Int) < (m : Int) := by omega
      have idl : id ≤ 2000000 := by rw [HI.out]; omega
      obtain ⟨I, hI⟩ : ∃ I, id + 1 = I := ⟨_, rfl⟩
      have hIz : (id : Int) + 1 = (I : Int) := by omega
      have HI1 := hideIt hI
      have HIz := hideIt hIz
      clear hI hIz
      have HC : Hid (cs.length = n1 * 1 ∧ cs.take (0 * 1) = runs (mkN p I) 0) := hideIt ⟨cl, by simp [runs]⟩
      have LS0 : LS wr base 3 1 63 (some ⟨gr, 0, none⟩) m cb ps (css'.set i cs) := by
        rw [set_self hc]; exact ls
      clear ls hq hc gc orow cl c1
      go_wp2
      clear cell c2
      obtain ⟨wo, hwo⟩ : ∃ wo, wo = wr := ⟨_, rfl⟩
      go_loopw [6] (fun jj wk => ∃ (j : Nat) (xs : List Value), j ≤ n1 ∧ jj = .int .i64 (j : Int) ∧ Hid (xs.length = n1 * 1 ∧ xs.take (j * 1) = runs (mkN p I) j) ∧ LS wk base 3 1 63 (some ⟨gr, 0, none⟩) m cb ps (css'.set i xs) ∧ Bk wk gk bs ∧ Out (InPs ps) w wk)
        (fun jj _ => n1 - (intOf jj).toNat)
      case atStart => exact ⟨0, cs, by omega, rfl, HC, LS0, bk, bw⟩
      case round =>
        clear HC LS0 bk bw hwo
        obtain ⟨j, xs, hj, rfl, HX, ls, bk, bw⟩ := hrel
        have il : i < css'.length := by rw [← List.length_set (i := i) (a := xs), ← ls.len, ls.n]; exact hlt
        have hci : (css'.set i xs)[i]? = some xs := List.getElem?_set_self il
        obtain ⟨gr', q', cs', e', orow, hq', hc', cell, gc⟩ := ls.at_ i hlt
        cases e'
        obtain rfl : q' = (A1, n1, k1) := Option.some.inj (hq'.symm.trans HQ.out)
        obtain rfl : cs' = xs := Option.some.inj (hc'.symm.trans hci)
        simp only at cell gc
        have c1 := OC.cell bk 1 _ E1.out
        have c2 := OC.cell bk 5 _ E2.out
        by_cases hlj : j < n1
        · rcases gc.oc with ⟨_, z, _⟩ | ⟨g1, rfl, hg1, o1⟩
          · omega
          have fr := OC.free o1 j
          obtain ⟨u0, hu0⟩ : ∃ u0, cs'[j]? = some u0 := ⟨_, List.getElem?_eq_getElem (by rw [HX.out.1]; omega)⟩
          have cj := OC.cell o1 j u0 hu0
          have MK := fun W hW => intsMark_calls gk p ((id : Int) + 1) I j W hW HIz.out p0 p1 (by have := HI1.out; omega) (by omega)
          have LT := fun u => ls.turn (by decide) i j g1 n1 k1 cs' u hq' hci
          have BT := fun u => Bk.same bk (Sm.setCell wr ⟨g1, j, none⟩ u (by rintro rfl; exact absurd (OC.tyy bk o1) (by decide)))
          have gx := fun u => gset wr g1 j u
          obtain ⟨mk, hmk⟩ : ∃ mk : Int, (I : Int) * 1000 + 2 * (j : Int) + p = mk := ⟨_, rfl⟩
          simp only [hmk] at MK
          have HX2 : Hid ((cs'.set j (.int .i64 mk)).length = n1 * 1 ∧ (cs'.set j (.int .i64 mk)).take ((j + 1) * 1) = runs (mkN p I) (j + 1)) := hideIt (by
            have PS := putL_step (sz := 1) HX.out.1 HX.out.2 hlj (rfl : (mkN p I j).length = 1)
            have e : putL cs' (j * 1) (mkN p I j) = cs'.set j (.int .i64 mk) := by rw [Nat.mul_one, ← hmk]; rfl
            rw [← e]; exact PS)
          have LT' := (LT (.int .i64 mk)).below (drew1 _)
          have BT' := (BT (.int .i64 mk)).below (drew1 _)
          have b2 := (bw.grow (gx (.int .i64 mk)) (fun g hg => by cases hg; exact Or.inl (InPs.at_ hq'))).drew
          rw [List.set_set] at LT'
          have c2s := OC.cell BT' 5 _ E2.out
          have cells : (wr.setCell ⟨g1, j, none⟩ (.int .i64 mk)).drew.cell? ⟨gr, i, none⟩ = some (.slice (some ⟨g1, 0, none⟩) n1 k1) := cell_sm cell (Sm.setCell wr ⟨g1, j, none⟩ _ (by rintro rfl; exact absurd (OC.tyy orow o1) (by decide)))
          have hmkv := hideIt hmk
          have i2 : (j : Int) < (n1 : Int) := by omega
          clear LT BT gx hmk ls bk bw o1 gc hq' hc' hci hu0 orow
          have c1d : wr.drew.cell? ⟨gk, 1, none⟩ = some (.int .i64 p) := c1
          have c2d : wr.drew.cell? ⟨gk, 5, none⟩ = some (.slice (some ⟨gr, 0, none⟩) m cb) := c2
          have celld : wr.drew.cell? ⟨gr, i, none⟩ = some (.slice (some ⟨g1, 0, none⟩) n1 k1) := cell
          go_wp2
          go_region_held3 (fun w' => w'.cell? ⟨gk, 5, none⟩ = some (.slice (some ⟨gr, 0, none⟩) m cb) ∧ w'.cell? ⟨gr, i, none⟩ = some (.slice (some ⟨g1, 0, none⟩) n1 k1)) (first | exact ⟨c2d, celld⟩ | exact ⟨c2s, cells⟩ | go_keep)
            (first
              | (go_at_call 194; (with_reducible refine (MK _ c1d).mono ?_); rintro en wx ⟨rfl, rfl⟩))
          go_wp2
          go_roundw
          case rel => exact ⟨j + 1, _, by omega, by go_num, HX2, LT', BT', b2⟩
          case measure => simp [intOf]; omega
        · obtain rfl : n1 = j := by omega
          have HM2 : Hid (MarkR (mkN p) id0 (i + 1) (css'.set i cs')) := hideIt ((HM.out.set (Nat.le_refl _) cs').more fun cs0 h0 => by
            rw [hci] at h0
            cases h0
            have := HX.out.2
            rw [← HX.out.1, List.take_length, ← HI1.out, HI.out] at this
            exact ⟨_, this⟩)
          have HS2 : Hid (∀ cs ∈ css'.set i cs', cs.length ≤ K * 1) := hideIt fun c0 h0 => by
            rcases List.mem_or_eq_of_mem_set h0 with q | q
            · exact HS.out c0 q
            · rw [q, HX.out.1]
              exact HLEN.out
          have HI2 : Hid (id + 1 = id0 + (i + 1)) := hideIt (by rw [HI.out]; omega)
          clear hq' hc' hci orow gc
          go_wp2
          go_roundw
          case rel => exact ⟨i + 1, id + 1, _, by omega, HI2, by go_num, by go_num, ls, HS2, HM2, bk, bw⟩
          case measure => simp [intOf]; omega
    · obtain rfl : m = i := by omega
      have e : Ending.returned (.int .i64 (id : Int)) = .returned (.int .i64 ((id0 + m : Nat) : Int)) := by rw [HI.out]
      have E := hideIt e
      clear e
      go_wp2
      go_ret
      exact ⟨css', E.out, ls, HM.out, bk, bw⟩
end Go.Proofs.YtmeakhiiebeneaaGreatDoor
namespace Go.Proofs.YtmeakhiiebeneaaGreatDoor
open Go.RowKit

def HoldN (z : Nat) (w : World) (e : Ending) (w' : World) : Prop := e = .returned (.tuple #[.int .i64 (z : Int), .bool true]) ∧ Below w.heap.size w w'
set_option maxRecDepth 100000 in
set_option maxHeartbeats 4000000 in
theorem intsHold_calls (gk m cb mg cg id0 K K2 : Nat) (p : Int) (Ab Ag : Option Addr) (ps qs : List Slot) (css zss : List (List Value)) (w : World) (hc1 : w.cell? ⟨gk, 1, none⟩ = some (.int .i64 p)) (hc2 : w.cell? ⟨gk, 5, none⟩ = some (.slice Ab m cb)) (hc4 : w.cell? ⟨gk, 7, none⟩ = some (.slice Ag mg cg))
    (h : RS w 1 Ab m cb ps css) (k1 : MarkR (mkN p) id0 m css) (s1 : ∀ cs ∈ css, cs.length ≤ K * 1) (g : RS w 1 Ag mg cg qs zss) (hmg : mg = 0 ∨ mg = m) (k2 : MarkR (mkN p) id0 m zss) (s2 : ∀ cs ∈ zss, cs.length ≤ K2 * 1) (hm : m ≤ 1000000) (h0 : id0 ≤ 1000000) (p0 : 0 ≤ p) (p1 : p ≤ 1) (hK : K ≤ 1000000) (hK2 : K2 ≤ 2000000) :
    Calls Tryz.prog 143 #[.pointer (some ⟨gk, 0, none⟩), .int .i64 (id0 : Int)] w (HoldN (id0 + m) w) := by
  have K1 := hideIt k1
  have K2 := hideIt k2
  have S1 := hideIt s1
  have S2 := hideIt s2
  have HMG := hideIt hmg
  have HR := hideIt h
  have GR' := hideIt g
  clear k1 k2 s1 s2 hmg h g
  go_enter Tryz.func143, Tryz.ntmps143
  go_wp2
  go_loopw [1, 6, 7] (fun dd aa ii wr => ∃ (i id : Nat), i ≤ m ∧ Hid (id = id0 + i) ∧ dd = .int .i64 (id : Int) ∧ aa = .bool true ∧ ii = .int .i64 (i : Int) ∧ Below w.heap.size w wr)
    (fun _ _ ii _ => m - (intOf ii).toNat)
  case atStart => exact ⟨0, id0, by omega, hideIt rfl, rfl, rfl, rfl, Below.refl _ _⟩
  case round =>
    obtain ⟨i, id, hi, HI, rfl, rfl, rfl, b⟩ := hrel
    have c2 := (b.cell (World.block_lt_of_cell? w _ hc2)).trans hc2
    have c4 := (b.cell (World.block_lt_of_cell? w _ hc4)).trans hc4
    have c1 := (b.cell (World.block_lt_of_cell? w _ hc1)).trans hc1
    by_cases hlt : i < m
    · obtain ⟨ad, q, cs, rfl, hq, hc, cell, rc⟩ := (HR.out.below b).at_ i hlt
      obtain ⟨A1, n1, d1⟩ := q
      simp only at cell rc
      have cl : cs.length = n1 * 1 := rc.len
      have ce := K1.out.at_ (by decide) (fun _ _ => rfl) hlt hc cl
      have sl := S1.out cs (List.mem_of_getElem? hc)
      rw [cl] at sl
      have idl : id ≤ 2000000 := by rw [HI.out]; omega
      rw [ce, ← HI.out] at rc
      have SH := intsShow_calls gk p ((id : Int) + 1) (id + 1) A1 n1 d1 wr c1 (by omega) p0 p1 rc (by omega) (by omega)
      have i1 : (i : Int) < (m : Int) := by omega
      have HI2 : Hid (id + 1 = id0 + (i + 1)) := hideIt (by rw [HI.out]; omega)
      clear hq hc cl ce sl rc
      go_upto_region 7 with (go_at_call 207; (with_reducible refine SH.mono ?_); rintro en wx ⟨rfl, xx⟩)
      have b2 := blw_step b xx
      clear c2 c4 cell SH xx
      have c2 := (b2.cell (World.block_lt_of_cell? w _ hc2)).trans hc2
      have c4 := (b2.cell (World.block_lt_of_cell? w _ hc4)).trans hc4
      rcases HMG.out with z | z
      · subst z
        have t1 : decide ((i : Int) < 0) = false := decide_eq_false (by omega)
        go_wp2
        go_roundw
        case rel => exact ⟨i + 1, id + 1, by omega, HI2, by go_num, rfl, by go_num, b2⟩
        case measure => simp [intOf]; omega
      · subst z
        have c1 := (b2.cell (World.block_lt_of_cell? w _ hc1)).trans hc1
        obtain ⟨ad2, q, cs, rfl, hq, hc, cell2, rc⟩ := (GR'.out.below b2).at_ i hlt
        obtain ⟨A2, n2, d2⟩ := q
        simp only at cell2 rc
        have cl : cs.length = n2 * 1 := rc.len
        have ce := K2.out.at_ (by decide) (fun _ _ => rfl) hlt hc cl
        have sl := S2.out cs (List.mem_of_getElem? hc)
        rw [cl] at sl
        rw [ce, ← HI.out] at rc
        have SH2 := intsShow_calls gk p ((id : Int) + 1) (id + 1) A2 n2 d2 wx c1 (by omega) p0 p1 rc (by omega) (by omega)
        have t1 : decide (i < mg) = true := decide_eq_true hlt
        clear hq hc cl ce sl rc
        go_wp2_with (go_at_call 207; (with_reducible refine SH2.mono ?_); rintro en wy ⟨rfl, xy⟩)
        have b3 := blw_step b2 xy
        go_roundw
        case rel => exact ⟨i + 1, id + 1, by omega, HI2, by go_num, rfl, by go_num, b3⟩
        case measure => simp [intOf]; omega
    · obtain rfl : m = i := by omega
      have E : Hid (id = id0 + m) := hideIt HI.out
      go_wp2
      go_ret2
      rw [← E.out]
      exact ⟨rfl, b⟩
end Go.Proofs.YtmeakhiiebeneaaGreatDoor
