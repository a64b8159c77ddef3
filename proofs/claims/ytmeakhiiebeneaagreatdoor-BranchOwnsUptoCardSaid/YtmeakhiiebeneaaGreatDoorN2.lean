/- coppicekept.Book where lists of bytes alone are kept: Finish, Bytes. -/
import Derived.Test.YtmeakhiiebeneaaGreatDoorKe
import Derived.Outline
namespace Go.Proofs.YtmeakhiiebeneaaGreatDoor
open Go.RowKit

set_option maxRecDepth 100000 in
set_option maxHeartbeats 2000000 in
theorem grow_zero (gk cb : Nat) (p : Int) (Ab : Option Addr) (V3 V4 : Value) (w : World) (hk : Bk w gk (bookCs p (.slice Ab 0 cb) V3 V4)) :
    Calls Tryz.prog 70 #[.pointer (some ⟨gk, 0, none⟩)] w fun e w' => ∃ v, e = .returned v ∧ w = w' := by
  have c0 := OC.cell hk 0 (.int .i64 0) rfl
  have C2 := OC.cell hk 2 (.slice Ab 0 cb) rfl
  have C5 := OC.cell hk 5 (.slice none 0 0) rfl
  have C8 := OC.cell hk 8 (.slice none 0 0) rfl
  have C11 := OC.cell hk 11 (.slice none 0 0) rfl
  have C14 := OC.cell hk 14 (.slice none 0 0) rfl
  have C17 := OC.cell hk 17 (.slice none 0 0) rfl
  have C20 := OC.cell hk 20 (.slice none 0 0) rfl
  have C23 := OC.cell hk 23 (.slice none 0 0) rfl
  have C26 := OC.cell hk 26 (.slice none 0 0) rfl
  have C29 := OC.cell hk 29 (.slice none 0 0) rfl
  have C32 := OC.cell hk 32 (.slice none 0 0) rfl
  have C35 := OC.cell hk 35 (.slice none 0 0) rfl
  have C38 := OC.cell hk 38 (.slice none 0 0) rfl
  clear hk
  go_enter Tryz.func70, Tryz.ntmps70
  go_wp2
  go_loop [2] (fun tt => ∃ t : Nat, t ≤ 70 ∧ tt = .int .i64 (t : Int)) (fun tt => 70 - (intOf tt).toNat)
  case atStart => exact ⟨0, by omega, rfl⟩
  case round =>
    obtain ⟨t, ht, rfl⟩ := hrel
    by_cases hlt : t < 70
    · have t1 : (t : Int) < 70 := by omega
      clear hlt
      go_wp2_with (first
        | (go_at_call 156; refine (intsGrow_nil gk _ _ _ C5).mono ?_; rintro en wx ⟨rfl, rfl⟩)
        | (go_at_call 157; refine (textsGrow_nil gk _ _ _ C8).mono ?_; rintro en wx ⟨rfl, rfl⟩)
        | (go_at_call 158; refine (byteListsGrow_nil gk _ _ _ C11).mono ?_; rintro en wx ⟨rfl, rfl⟩)
        | (go_at_call 159; refine (intListsGrow_nil gk _ _ _ C14).mono ?_; rintro en wx ⟨rfl, rfl⟩)
        | (go_at_call 160; refine (pairsGrow_nil gk _ _ _ C17).mono ?_; rintro en wx ⟨rfl, rfl⟩)
        | (go_at_call 161; refine (itemsGrow_nil gk _ _ _ C20).mono ?_; rintro en wx ⟨rfl, rfl⟩)
        | (go_at_call 162; refine (kidsGrow_nil gk _ _ _ C23).mono ?_; rintro en wx ⟨rfl, rfl⟩)
        | (go_at_call 163; refine (nodesGrow_nil gk _ _ _ C26).mono ?_; rintro en wx ⟨rfl, rfl⟩)
        | (go_at_call 164; refine (writesGrow_nil gk _ _ _ C29).mono ?_; rintro en wx ⟨rfl, rfl⟩)
        | (go_at_call 165; refine (changesGrow_nil gk _ _ _ C32).mono ?_; rintro en wx ⟨rfl, rfl⟩)
        | (go_at_call 166; refine (fatesGrow_nil gk _ _ _ C35).mono ?_; rintro en wx ⟨rfl, rfl⟩)
        | (go_at_call 167; refine (opsGrow_nil gk _ _ _ C38).mono ?_; rintro en wx ⟨rfl, rfl⟩)
        | (go_at_call 155; refine (bytesGrow_zero gk cb _ _ Ab _ C2).mono ?_; rintro en wx ⟨rfl, rfl⟩))
      go_round
      case rel => exact ⟨t + 1, by omega, by go_num⟩
      case measure => simp [intOf]; omega
    · obtain rfl : t = 70 := by omega
      go_wp2
      go_end0
      exact ⟨⟨_, rfl⟩, rfl⟩

theorem LS.lens {w w' : World} {base e sz rt n c base' n' c' : Nat} {A A' : Option Addr} {ps : List Slot} {css css' : List (List Value)} {K : Nat} (h : LS w base e sz rt A n c ps css) (h' : LS w' base' e sz rt A' n' c' ps css') (hK : ∀ cs ∈ css, cs.length ≤ K) : ∀ cs ∈ css', cs.length ≤ K := fun cs hcs => by
  obtain ⟨j, hj⟩ := List.getElem?_of_mem hcs
  have hl : j < ps.length := by rw [h'.len]; exact (List.getElem?_eq_some_iff.1 hj).1
  obtain ⟨p, hp⟩ : ∃ p, ps[j]? = some p := ⟨_, List.getElem?_eq_getElem hl⟩
  obtain ⟨cs0, hc0⟩ : ∃ cs0, css[j]? = some cs0 := ⟨_, List.getElem?_eq_getElem (by rw [← h.len]; exact hl)⟩
  have e1 := (h.each j p cs0 hp hc0).len
  have e2 := (h'.each j p cs hp hj).len
  rw [e2, ← e1]
  exact hK cs0 (List.mem_of_getElem? hc0)
theorem RS.none (w : World) (sz : Nat) : RS w sz none 0 0 [] [] := ⟨⟨rfl, Nat.le_refl _, Nat.zero_le _, fun _ => rfl, fun ad e => by cases e⟩, rfl, fun j p cs h => by simp at h⟩
theorem MarkedB.nil (p : Int) (id0 k : Nat) : MarkedB p id0 k [] := fun j cs _ h => by simp at h
theorem ShortB.of {css : List (List Value)} (h : ∀ cs ∈ css, cs.length ≤ 900000) : ShortB css := fun cs hc => Nat.le_trans (h cs hc) (by decide)
set_option maxRecDepth 100000 in
set_option maxHeartbeats 4000000 in
theorem Finish_b (gk base m cb cw : Nat) (Ab Aw : Option Addr) (ps : List Slot) (vs' : List Value) (xss : List (List UInt8)) (w : World) (hk : Bk w gk (bookCs 0 (.slice Ab m cb) (.slice Aw m cw) (.slice none 0 0))) (h : LS w base 5 1 40 Ab m cb ps (xss.map u8s)) (h' : RM w Aw m cw vs' xss) (hs : ∀ xs ∈ xss, xs.length ≤ 900000) (m1 : m ≤ 900000) (hb : base ≤ w.heap.size) :
    Calls Tryz.prog 20 #[.pointer (some ⟨gk, 0, none⟩)] w fun e w' => e = .returned (.bool true) ∧ Out (fun g => g = gk ∨ InPs ps g) w w' := by
  have hK : ∀ cs ∈ xss.map u8s, cs.length ≤ 900000 := fun cs hc => by
    obtain ⟨xs, hx, rfl⟩ := List.mem_map.1 hc
    rw [u8s_length]; exact hs xs hx
  have HK := hideIt hK
  have HB := hideIt hb
  have UN := Untouched_b gk m cb cw 0 Ab Aw _ _ _ xss w hk h.read.rm h' (by omega)
  clear hK hb hs h'
  go_enter Tryz.func20, Tryz.ntmps20
  go_upto_region 2 with (go_at_call 67; refine UN.mono ?_; rintro en w1 ⟨rfl, j1, h1⟩; have H1 := hideIt h1; clear h1)
  have d1 : Below w.heap.size w w1 := below_same (below_drewN (Below.refl _ _) j1) H1.out
  have bk1 := hk.below d1
  have ls1 := h.below d1
  have ou1 : Out (fun g => g = gk ∨ InPs ps g) w w1 := Out.of_below d1
  have HL0 := hideIt h
  clear UN hk h d1 H1
  have WR := write_b gk base m cb 0 Ab _ _ ps _ w1 bk1 ls1 (ShortB.of HK.out) (by omega)
  clear bk1 ls1
  go_upto_region 3 with (go_at_call 68; refine WR.mono ?_; intro en w2 q2; obtain ⟨v2, rfl, css2, ls2, sh2, mk2, bk2, o2⟩ := q2)
  have ou2 := ou1.trans o2 (fun g q => Or.inl (Or.inr q))
  clear WR ou1 o2
  have HO := Holds_b gk m cb 0 0 0 Ab none _ ps [] css2 [] w2 bk2 ls2.read mk2 sh2 (RS.none _ _) (Or.inl rfl) (MarkedB.nil _ _ _) (fun cs hc => by cases hc) (by omega)
  clear mk2
  go_upto_region 4 with (go_at_call 69; refine HO.mono ?_; rintro en wx ⟨rfl, rfl⟩)
  have cp := OC.cell bk2 1 (.int .i64 0) rfl
  have fp := OC.free bk2 1
  have bk3 : Bk (w2.setCell ⟨gk, 1, none⟩ (.int .i64 1)) gk (bookCs 1 (.slice Ab m cb) (.slice Aw m cw) (.slice none 0 0)) := OC.set bk2 1 (.int .i64 1)
  have ls3 := ls2.booked bk2 (by decide) (by decide) 1 (.int .i64 1)
  have ou3 := ou2.grow (gset w2 gk 1 (.int .i64 1)) (fun g q => by cases q; exact Or.inl (Or.inl rfl))
  have SH2 := hideIt sh2
  clear HO bk2 ls2 ou2 sh2
  go_upto_region 5 with fail
  clear cp fp
  generalize w2.setCell ⟨gk, 1, none⟩ (.int .i64 1) = w3 at bk3 ls3 ou3 ⊢
  have WR := write_b gk base m cb 1 Ab _ _ ps _ w3 bk3 ls3 SH2.out (by omega)
  clear bk3 ls3 SH2
  go_upto_region 6 with (go_at_call 68; refine WR.mono ?_; intro en w4 q4; obtain ⟨v4, rfl, css4, ls4, sh4, mk4, bk4, o4⟩ := q4)
  have ou4 := ou3.trans o4 (fun g q => Or.inl (Or.inr q))
  have HK4 := hideIt (HL0.out.lens ls4 HK.out)
  clear WR ou3 o4
  have HO := Holds_b gk m cb 0 0 1 Ab none _ ps [] css4 [] w4 bk4 ls4.read mk4 sh4 (RS.none _ _) (Or.inl rfl) (MarkedB.nil _ _ _) (fun cs hc => by cases hc) (by omega)
  go_upto_region 7 with (go_at_call 69; refine HO.mono ?_; rintro en wx ⟨rfl, rfl⟩)
  rcases Nat.eq_zero_or_pos m with hm | hm
  · subst hm
    have GZ := grow_zero gk cb 1 Ab _ _ w4 bk4
    clear bk4 ls4 sh4 mk4
    go_wp2_with (first
      | (go_at_call 69; refine HO.mono ?_; rintro en wx ⟨rfl, rfl⟩)
      | (go_at_call 70; refine GZ.mono ?_; rintro en wx ⟨v, rfl, rfl⟩))
    go_ret
    exact ⟨rfl, ou4⟩
  · have GB := grow_b gk base m cb 900000 1 Ab _ ps css4 w4 bk4 ls4 mk4 HK4.out (by decide) hm m1 (Nat.le_trans HB.out ou4.size)
    have MK4 := hideIt mk4
    have SH4 := hideIt sh4
    have Z4 := hideIt ou4.size
    clear HO bk4 ls4 sh4 mk4
    go_upto_region 8 with (go_at_call 70; refine GB.mono ?_; intro en w5 q5; obtain ⟨v5, rfl, ⟨qs, zss, Ag, cg, bk5, ra5, rg5, gr5, mk5, len5⟩, o5⟩ := q5)
    have ou5 := ou4.trans o5 (fun g q => by
      rcases q with q | q | q
      · exact Or.inl (Or.inl q)
      · exact Or.inl (Or.inr q)
      · exact Or.inr (Nat.le_trans Z4.out q))
    have qm : qs.length = m := by rw [gr5.lq]; have := ra5.1; simpa using this
    have rg6 := GC.read rg5
    rw [show qs.take m = qs from List.take_of_length_le (by omega)] at rg6
    have HO := Holds_b gk m cb m cg 1 Ab Ag _ ps qs css4 zss w5 bk5 (gr5.old (GC.read ra5)) MK4.out SH4.out (gr5.now rg6) (Or.inr rfl) mk5 (fun cs hc => Nat.le_trans (len5 cs hc) (by decide)) (by omega)
    clear GB bk5 ra5 rg5 rg6 gr5 mk5 len5 o5 ou4 qm
    go_wp2_with (go_at_call 69; refine HO.mono ?_; rintro en wx ⟨rfl, rfl⟩)
    go_ret
    exact ⟨rfl, ou5⟩
end Go.Proofs.YtmeakhiiebeneaaGreatDoor
namespace Go.Proofs.YtmeakhiiebeneaaGreatDoor
open Go.RowKit

structure BookB (w : World) (gk base m : Nat) (Ab : Option Addr) (cb : Nat) (Aw : Option Addr) (cw : Nat) (ps pw : List Slot) (xss : List (List UInt8)) : Prop where
  bk : Bk w gk (bookCs 0 (.slice Ab m cb) (.slice Aw m cw) (.slice none 0 0))
  ls : LS w base 5 1 40 Ab m cb ps (xss.map u8s)
  lw : LS w base 5 1 40 Aw m cw pw (xss.map u8s)
  ap : ∀ a b, Ab = some a → Aw = some b → a.block ≠ b.block
theorem BookB.below {w w' : World} {gk base m cb cw : Nat} {Ab Aw : Option Addr} {ps pw : List Slot} {xss : List (List UInt8)} (h : BookB w gk base m Ab cb Aw cw ps pw xss) (b : Below w.heap.size w w') : BookB w' gk base m Ab cb Aw cw ps pw xss :=
  ⟨h.bk.below b, h.ls.below b, h.lw.below b, h.ap⟩
/-- the blocks that the keeping of a list writes: the book, and rows of the book's own. -/
def KeepD (w : World) (gk base g : Nat) : Prop := g = gk ∨ (base ≤ g ∧ ∃ n c cs, OC w 40 1 g n c cs)
theorem KeepD.not {w : World} {gk base g e sz n c : Nat} {cs bs : List Value} (bk : Bk w gk bs) (o : OC w e sz g n c cs) (n1 : 39 ≠ e) (n2 : 40 ≠ e) : ¬ KeepD w gk base g := by
  rintro (rfl | ⟨_, n', c', cs', o'⟩)
  · exact n1 (OC.tyy bk o)
  · exact n2 (OC.tyy o' o)
theorem Out.keepOC {w w' : World} {gk base g e sz n c : Nat} {cs bs : List Value} (h : Out (KeepD w gk base) w w') (bk : Bk w gk bs) (o : OC w e sz g n c cs) (n1 : 39 ≠ e) (n2 : 40 ≠ e) : OC w' e sz g n c cs :=
  o.same (h.sm o.lt (KeepD.not bk o n1 n2))
theorem Out.keepOB {w w' : World} {gk base g n c : Nat} {xs : List UInt8} {bs : List Value} (h : Out (KeepD w gk base) w w') (bk : Bk w gk bs) (o : OB w g n c xs) : OB w' g n c xs := h.keepOC bk o (by decide) (by decide)
theorem Out.keepGB {w w' : World} {gk base b n c : Nat} {A : Option Addr} {xs : List UInt8} {bs : List Value} (h : Out (KeepD w gk base) w w') (bk : Bk w gk bs) (o : GB w b A n c xs) : GB w' b A n c xs := by
  rcases GC.oc o with ⟨rfl, rfl, rfl, e⟩ | ⟨g, rfl, hb, o'⟩
  · have : xs = [] := by cases xs with | nil => rfl | cons x t => simp [u8s] at e
    subst this
    exact GC.nil _ _ _ _
  · exact GC.of (h.keepOC bk o' (by decide) (by decide)) hb
theorem Out.keepLt {w w' : World} {gk base g : Nat} (h : Out (KeepD w gk base) w w') (hg : g < w.heap.size) (h1 : g ≠ gk) (h2 : g < base) : Sm w w' g := h.sm hg (by
  rintro (rfl | ⟨q, _⟩)
  · exact h1 rfl
  · omega)
theorem Out.keepT {w w1 w2 : World} {gk base : Nat} (h : Out (KeepD w gk base) w w1) (h2 : Out (KeepD w1 gk base) w1 w2) : Out (KeepD w gk base) w w2 :=
  h.trans h2 fun g hg => by
    by_cases hD : KeepD w gk base g
    · exact Or.inl hD
    · by_cases hl : g < w.heap.size
      · rcases hg with q | ⟨q, n', c', cs', oc⟩
        · exact Or.inl (Or.inl q)
        · exact Or.inl (Or.inr ⟨q, n', c', cs', oc.same (show Sm w1 w g from (h.sm hl hD).symm)⟩)
      · exact Or.inr (by omega)
/-- a store of a slice into the book. -/
theorem BookB.step {w w5 : World} {gk base m cb g5 c5 : Nat} {Ab : Option Addr} {bs : List Value} {ps : List Slot} {css : List (List Value)} {A : Option Addr} {n c F : Nat} {cs : List Value} (bk : Bk w gk bs) (ls : LS w base 5 1 40 Ab m cb ps css) (o : GC w base 5 1 A n c cs) (hne : ∀ p ∈ ps, ∀ a b, p.1 = some a → A = some b → a.block ≠ b.block)
    (k5 : w.grownBy w5 (Ab.map (·.block))) (o5 : OC w5 40 1 g5 (m + 1) c5 (ps.map sv ++ [.slice A n c])) (q5 : base ≤ g5) :
    Bk w5 gk bs ∧ Bk (w5.setCell ⟨gk, F, none⟩ (.slice (some ⟨g5, 0, none⟩) (m + 1) c5)) gk (bs.set F (.slice (some ⟨g5, 0, none⟩) (m + 1) c5)) ∧
    LS (w5.setCell ⟨gk, F, none⟩ (.slice (some ⟨g5, 0, none⟩) (m + 1) c5)) base 5 1 40 (some ⟨g5, 0, none⟩) (m + 1) c5 (ps ++ [(A, n, c)]) (css ++ [cs]) ∧
    Out (KeepD w gk base) w (w5.setCell ⟨gk, F, none⟩ (.slice (some ⟨g5, 0, none⟩) (m + 1) c5)) := by
  have bk5 : Bk w5 gk bs := OC.apart bk ls.row k5 (by decide)
  have ls5 := ls.push (by decide) o hne k5 o5 q5
  have ou5 : Out (KeepD w gk base) w w5 := (Out.refl _ w).grow k5 fun g hg => by
    rcases ls.row.oc with ⟨rfl, _⟩ | ⟨g0, rfl, hb, og⟩
    · cases hg
    · cases hg; exact Or.inl (Or.inr ⟨hb, _, _, _, og⟩)
  exact ⟨bk5, OC.set bk5 F _, ls5.booked bk5 (by decide) (by decide) F _, ou5.grow (gset w5 gk F _) (fun g hg => by cases hg; exact Or.inl (Or.inl rfl))⟩
/-- where another row of the book is written. -/
theorem LS.rowed {w w5 : World} {base m cb m' cb' gk F : Nat} {Ab Ab' : Option Addr} {ps ps' : List Slot} {css css' : List (List Value)} {bs : List Value} {u : Value} (lw : LS w base 5 1 40 Ab' m' cb' ps' css') (ls : LS w base 5 1 40 Ab m cb ps css) (ap : ∀ a b, Ab = some a → Ab' = some b → a.block ≠ b.block) (k5 : w.grownBy w5 (Ab.map (·.block))) (bk5 : Bk w5 gk bs) :
    LS (w5.setCell ⟨gk, F, none⟩ u) base 5 1 40 Ab' m' cb' ps' css' := by
  refine LS.booked ?_ bk5 (by decide) (by decide) F u
  rcases ls.row.oc with ⟨rfl, _⟩ | ⟨g0, rfl, hb, og⟩
  · exact ⟨lw.row.sm0 k5, lw.len, fun j p cs h1 h2 => (lw.each j p cs h1 h2).sm0 k5, lw.inc⟩
  · refine lw.other k5 (fun a ha e => ap _ a rfl ha e.symm) (fun p hp a ha e => ?_)
    obtain ⟨j, hj⟩ := List.getElem?_of_mem hp
    obtain ⟨cs, hc⟩ : ∃ cs, css'[j]? = some cs := ⟨_, List.getElem?_eq_getElem (by rw [← lw.len]; exact (List.getElem?_eq_some_iff.1 hj).1)⟩
    rcases (lw.each j p cs hj hc).oc with ⟨e0, _⟩ | ⟨g1, e1, _, o1⟩
    · rw [ha] at e0; cases e0
    · rw [ha] at e1; cases e1
      subst e
      exact absurd (OC.tyy o1 og) (by decide)
def KeptB (gk base m : Nat) (A : Option Addr) (n c : Nat) (ps : List Slot) (xss : List (List UInt8)) (xs : List UInt8) (w : World) (e : Ending) (w' : World) : Prop :=
  (∃ v, e = .returned v) ∧ ∃ (Ab : Option Addr) (cb : Nat) (Aw : Option Addr) (cw : Nat) (pw : List Slot), BookB w' gk base (m + 1) Ab cb Aw cw (ps ++ [(A, n, c)]) pw (xss ++ [xs]) ∧ Out (KeepD w gk base) w w'
/-- the same, with the copy's memory told. -/
def KeptB2 (gk base m : Nat) (A : Option Addr) (n c : Nat) (ps pw : List Slot) (xss : List (List UInt8)) (xs : List UInt8) (w : World) (e : Ending) (w' : World) : Prop :=
  (∃ v, e = .returned v) ∧ ∃ (Ab : Option Addr) (cb : Nat) (Aw : Option Addr) (cw : Nat) (p : Slot), BookB w' gk base (m + 1) Ab cb Aw cw (ps ++ [(A, n, c)]) (pw ++ [p]) (xss ++ [xs]) ∧ (∀ a, p.1 = some a → w.heap.size ≤ a.block) ∧ Out (KeepD w gk base) w w'
set_option maxRecDepth 100000 in
set_option maxHeartbeats 4000000 in
theorem Bytes_b2 (gk base m cb cw : Nat) (Ab Aw : Option Addr) (ps pw : List Slot) (xss : List (List UInt8)) (A : Option Addr) (n c : Nat) (xs : List UInt8) (w : World) (hB : BookB w gk base m Ab cb Aw cw ps pw xss) (o : GB w base A n c xs) (hne : ∀ p ∈ ps, ∀ a b, p.1 = some a → A = some b → a.block ≠ b.block) (hn : n ≤ 1000000) (hm : m ≤ 800000) (hb : base ≤ w.heap.size) :
    Calls Tryz.prog 19 #[.pointer (some ⟨gk, 0, none⟩), .slice A n c] w (KeptB2 gk base m A n c ps pw xss xs w) := by
  obtain ⟨bk, ls, lw, ap⟩ := hB
  have HNE := hideIt hne
  have HAP := hideIt ap
  have HWL := hideIt lw.lt
  clear hne ap
  go_enter Tryz.func19, Tryz.ntmps19
  have ba := below1 w (.cells #[.slice A n c] 40)
  have bk1 := bk.below ba
  have ls1 := ls.below ba
  have lw1 := lw.below ba
  have o1 := GB.below o ba
  have R1 := sv_cell w (A, n, c)
  have b1 := Nat.le_trans hb ba.size
  have c2 := OC.cell bk 2 (.slice Ab m cb) rfl
  have c21 := OC.cell bk1 2 (.slice Ab m cb) rfl
  go_upto_region 1 with (first
    | ((with_reducible refine wpMx_app rfl (.tmp 8) (.tmp 10) rfl base _ _ _ _ rfl ls1.row _ (A, n, c) rfl R1 (by omega) b1 ?_); intro g5 c5 w5 q5 Q5 o5 k5; have ZA : (w.alloc (.cells #[.slice A n c] 40)).heap.size = w.heap.size + 1 := (by simp); have st := BookB.step (F := 2) bk1 ls1 o1 HNE.out k5 o5 q5; have lw5 := lw1.rowed (F := 2) (u := .slice (some ⟨g5, 0, none⟩) (m + 1) c5) ls1 HAP.out k5 st.1; have cc5 := OC.cell st.1 2 (.slice Ab m cb) rfl; have ff5 := OC.free st.1 2))
  obtain ⟨-, bk6, ls6, ou6⟩ := st
  have hk6 : Bk (w5.setCell ⟨gk, 2, none⟩ (.slice (some ⟨g5, 0, none⟩) (m + 1) c5)) gk (bookCs 0 (.slice (some ⟨g5, 0, none⟩) (m + 1) c5) (.slice Aw m cw) (.slice none 0 0)) := bk6
  have o6 : GB (w5.setCell ⟨gk, 2, none⟩ (.slice (some ⟨g5, 0, none⟩) (m + 1) c5)) base A n c xs := ou6.keepGB bk1 o1
  have ou : Out (KeepD w gk base) w (w5.setCell ⟨gk, 2, none⟩ (.slice (some ⟨g5, 0, none⟩) (m + 1) c5)) := (Out.of_below ba).keepT ou6
  have APN : Hid (∀ b, Aw = some b → g5 ≠ b.block) := hideIt fun b hb' e => by
    have h1 := (lw.row.lt b hb').1
    rcases Q5 with ⟨a, z, e2⟩ | z
    · exact HAP.out _ b z hb' (by rw [← e2, e])
    · omega
  clear ba bk1 ls1 lw1 o1 R1 c2 c21 cc5 ff5 k5 o5 bk6 ou6 bk ls lw o
  have z6 := Nat.le_trans hb ou.size
  generalize w5.setCell ⟨gk, 2, none⟩ (.slice (some ⟨g5, 0, none⟩) (m + 1) c5) = w6 at hk6 ls6 lw5 o6 ou z6 ⊢
  have cw6 := OC.cell hk6 3 (.slice Aw m cw) rfl
  have cw6d : w6.drew.cell? ⟨gk, 3, none⟩ = some (.slice Aw m cw) := cw6
  have bd := drew1 w6
  have od := GB.read (GB.below o6 bd)
  have zd : base ≤ w6.drew.heap.size := z6
  have g5l : g5 < w6.heap.size := (ls6.row.lt ⟨g5, 0, none⟩ rfl).1
  clear ZA Q5
  go_region_law
    (first
      | (refine stepMx_app rfl (.tmp 18) (.tmp 21) rfl base _ _ _ _ rfl lw8.row _ (some ⟨g7, 0, none⟩, n, c7) rfl R8 (by omega) z8 ?_; intro g9 c9 w9 q9 Q9 o9 k9; have st9 := BookB.step (F := 3) bk8 lw8 S8 NE8.out k9 o9 q9; have ls9 := ls8.rowed (F := 3) (u := .slice (some ⟨g9, 0, none⟩) (m + 1) c9) lw8 APX.out k9 st9.1; have cc9 := OC.cell st9.1 3 (.slice Aw m cw) rfl; have ff9 := OC.free st9.1 3)
      | (refine step_of rfl ?_; go_simp; go_at_call 22; ((with_reducible refine (Bytes_calls _ _ _ _ _ od (by omega)).mono ?_); rintro en w7 ⟨g7, c7, rfl, s7, o7, x7⟩; have bd7 := blw_step bd x7; have cw7 := OC.cell (hk6.below bd7) 3 (.slice Aw m cw) rfl; have ba8 := below1 w7 (.cells #[.slice (some ⟨g7, 0, none⟩) n c7] 40); have bd8 := blw_step bd7 ba8; have bk8 := hk6.below bd8; have ls8 := ls6.below bd8; have lw8 := lw5.below bd8; have S8 := GB.below (GB.of o7 (Nat.le_trans zd s7)) ba8; have R8 := sv_cell w7 (some ⟨g7, 0, none⟩, n, c7); have z8 := Nat.le_trans z6 bd8.size; have cw8 := OC.cell bk8 3 (.slice Aw m cw) rfl; have cw8a : (w7.alloc (.cells #[.slice (some ⟨g7, 0, none⟩) n c7] 40)).cell? ⟨gk, 3, none⟩ = some (.slice Aw m cw) := cw8; have NE8 : Hid (∀ p ∈ pw, ∀ a b, p.1 = some a → (some ⟨g7, 0, none⟩ : Option Addr) = some b → a.block ≠ b.block) := hideIt (fun p hp a b ha hb' e => by cases hb'; have h1 := (HWL.out p hp a ha).1; have h2 := ou.size; have h3 : w6.heap.size ≤ g7 := s7; have h4 : a.block = g7 := e; omega); have APX : Hid (∀ a b, Aw = some a → (some ⟨g5, 0, none⟩ : Option Addr) = some b → a.block ≠ b.block) := hideIt (fun a b ha hb' e => by cases hb'; exact APN.out a ha e.symm))))
  all_goals
    obtain ⟨-, bkA, lsA, ouA⟩ := st9
    have z9 := bd8.size
    have OU := (ou.step bd8).keepT ouA
    have AP : Hid (∀ a b, (some ⟨g5, 0, none⟩ : Option Addr) = some a → (some ⟨g9, 0, none⟩ : Option Addr) = some b → a.block ≠ b.block) := hideIt (fun a b ha hb' e => by
      cases ha
      cases hb'
      have e : g5 = g9 := e
      rcases Q9 with ⟨b, z, e2⟩ | z
      · exact APN.out b z (by rw [e, e2])
      · omega)
    have e0 : (xss ++ [xs]).map u8s = xss.map u8s ++ [u8s xs] := by rw [List.map_append]; rfl
    rw [← e0] at lsA ls9
    have FIN : Hid (BookB _ gk base (m + 1) (some ⟨g5, 0, none⟩) c5 (some ⟨g9, 0, none⟩) c9 (ps ++ [(A, n, c)]) (pw ++ [(some ⟨g7, 0, none⟩, n, c7)]) (xss ++ [xs])) := hideIt ⟨bkA, ls9, lsA, AP.out⟩
    clear e0 lsA ls9 bkA ouA bd8 bk8 ls8 lw8 S8 R8 z8 cw8 cw8a cc9 ff9 k9 o9
    go_wp2
    go_end0
    exact ⟨⟨_, rfl⟩, _, _, _, _, _, FIN.out, (fun a ha => by cases ha; exact Nat.le_trans ou.size s7), OU⟩
theorem Bytes_b (gk base m cb cw : Nat) (Ab Aw : Option Addr) (ps pw : List Slot) (xss : List (List UInt8)) (A : Option Addr) (n c : Nat) (xs : List UInt8) (w : World) (hB : BookB w gk base m Ab cb Aw cw ps pw xss) (o : GB w base A n c xs) (hne : ∀ p ∈ ps, ∀ a b, p.1 = some a → A = some b → a.block ≠ b.block) (hn : n ≤ 1000000) (hm : m ≤ 800000) (hb : base ≤ w.heap.size) :
    Calls Tryz.prog 19 #[.pointer (some ⟨gk, 0, none⟩), .slice A n c] w (KeptB gk base m A n c ps xss xs w) :=
  (Bytes_b2 gk base m cb cw Ab Aw ps pw xss A n c xs w hB o hne hn hm hb).mono fun _ _ ⟨h, Ab, cb, Aw, cw, _, B, _, ou⟩ => ⟨h, Ab, cb, Aw, cw, _, B, ou⟩
end Go.Proofs.YtmeakhiiebeneaaGreatDoor
