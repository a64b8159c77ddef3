/- coppicekept.Book where lists of bytes alone are kept: Finish, Bytes. -/
import Derived.Test.YtmeakhiiebeneaaGreatDoorKe
namespace Go.Proofs.YtmeakhiiebeneaaGreatDoor
open Go.RowKit

set_option maxRecDepth 100000 in
set_option maxHeartbeats 2000000 in
theorem grow_zero (gk cb : Nat) (p : Int) (Ab : Option Addr) (V3 V4 : Value) (w : World) (hk : Bk w gk (bookCs p (.slice Ab 0 cb) V3 V4)) :
    Calls Tryz.prog 70 #[.pointer (some ⟨gk, 0, none⟩)] w fun e w' => ∃ v, e = .returned v ∧ w = w' := by
  have c0 := OC.cell hk 0 (.int .i64 0) rfl
  have C2 := OC.cell hk 2 (.slice Ab 0 cb) rfl
  have C5 := OC.cell hk 5 (.slice none 0 0) rfl
  have C8 := OC.cell hk 8 (.slice none 0 0) rfl
  have C11 := OC.cell hk 11 (.slice none 0 0) rfl
  have C14 := OC.cell hk 14 (.slice none 0 0) rfl
  have C17 := OC.cell hk 17 (.slice none 0 0) rfl
  have C20 := OC.cell hk 20 (.slice none 0 0) rfl
  have C23 := OC.cell hk 23 (.slice none 0 0) rfl
  have C26 := OC.cell hk 26 (.slice none 0 0) rfl
  have C29 := OC.cell hk 29 (.slice none 0 0) rfl
  have C32 := OC.cell hk 32 (.slice none 0 0) rfl
  have C35 := OC.cell hk 35 (.slice none 0 0) rfl
  have C38 := OC.cell hk 38 (.slice none 0 0) rfl
  clear hk
  go_enter Tryz.func70, Tryz.ntmps70
  go_wp2
  go_loop [2] (fun tt => ∃ t : Nat, t ≤ 70 ∧ tt = .int .i64 (t : Int)) (fun tt => 70 - (intOf tt).toNat)
  case atStart => exact ⟨0, by omega, rfl⟩
  case round =>
    obtain ⟨t, ht, rfl⟩ := hrel
    by_cases hlt : t < 70
    · have t1 : (t : Int) < 70 := by omega
      clear hlt
      go_wp2_with (first
        | (go_at_call 156; refine (intsGrow_nil gk _ _ _ C5).mono ?_; rintro en wx ⟨rfl, rfl⟩)
        | (go_at_call 157; refine (textsGrow_nil gk _ _ _ C8).mono ?_; rintro en wx ⟨rfl, rfl⟩)
        | (go_at_call 158; refine (byteListsGrow_nil gk _ _ _ C11).mono ?_; rintro en wx ⟨rfl, rfl⟩)
        | (go_at_call 159; refine (intListsGrow_nil gk _ _ _ C14).mono ?_; rintro en wx ⟨rfl, rfl⟩)
        | (go_at_call 160; refine (pairsGrow_nil gk _ _ _ C17).mono ?_; rintro en wx ⟨rfl, rfl⟩)
        | (go_at_call 161; refine (itemsGrow_nil gk _ _ _ C20).mono ?_; rintro en wx ⟨rfl, rfl⟩)
        | (go_at_call 162; refine (kidsGrow_nil gk _ _ _ C23).mono ?_; rintro en wx ⟨rfl, rfl⟩)
        | (go_at_call 163; refine (nodesGrow_nil gk _ _ _ C26).mono ?_; rintro en wx ⟨rfl, rfl⟩)
        | (go_at_call 164; refine (writesGrow_nil gk _ _ _ C29).mono ?_; rintro en wx ⟨rfl, rfl⟩)
        | (go_at_call 165; refine (changesGrow_nil gk _ _ _ C32).mono ?_; rintro en wx ⟨rfl, rfl⟩)
        | (go_at_call 166; refine (fatesGrow_nil gk _ _ _ C35).mono ?_; rintro en wx ⟨rfl, rfl⟩)
        | (go_at_call 167; refine (opsGrow_nil gk _ _ _ C38).mono ?_; rintro en wx ⟨rfl, rfl⟩)
        | (go_at_call 155; refine (bytesGrow_zero gk cb _ _ Ab _ C2).mono ?_; rintro en wx ⟨rfl, rfl⟩))
      go_round
      case rel => exact ⟨t + 1, by omega, by go_num⟩
      case measure => simp [intOf]; omega
    · obtain rfl : t = 70 := by omega
      go_wp2
      go_end0
      exact ⟨⟨_, rfl⟩, rfl⟩

theorem LS.lens {w w' : World} {base e sz rt n c base' n' c' : Nat} {A A' : Option Addr} {ps : List Slot} {css css' : List (List Value)} {K : Nat} (h : LS w base e sz rt A n c ps css) (h' : LS w' base' e sz rt A' n' c' ps css') (hK : ∀ cs ∈ css, cs.length ≤ K) : ∀ cs ∈ css', cs.length ≤ K := fun cs hcs => by
  obtain ⟨j, hj⟩ := List.getElem?_of_mem hcs
  have hl : j < ps.length := by rw [h'.len]; exact (List.getElem?_eq_some_iff.1 hj).1
  obtain ⟨p, hp⟩ : ∃ p, ps[j]? = some p := ⟨_, List.getElem?_eq_getElem hl⟩
  obtain ⟨cs0, hc0⟩ : ∃ cs0, css[j]? = some cs0 := ⟨_, List.getElem?_eq_getElem (by rw [← h.len]; exact hl)⟩
  have e1 := (h.each j p cs0 hp hc0).len
  have e2 := (h'.each j p cs hp hj).len
  rw [e2, ← e1]
  exact hK cs0 (List.mem_of_getElem? hc0)
theorem RS.none (w : World) (sz : Nat) : RS w sz none 0 0 [] [] := ⟨⟨rfl, Nat.le_refl _, Nat.zero_le _, fun _ => rfl, fun ad e => by cases e⟩, rfl, fun j p cs h => by simp at h⟩
theorem MarkedB.nil (p : Int) (id0 k : Nat) : MarkedB p id0 k [] := fun j cs _ h => by simp at h
theorem ShortB.of {css : List (List Value)} (h : ∀ cs ∈ css, cs.length ≤ 900000) : ShortB css := fun cs hc => Nat.le_trans (h cs hc) (by decide)
set_option maxRecDepth 100000 in
set_option maxHeartbeats 4000000 in
theorem Finish_b (gk base m cb cw : Nat) (Ab Aw : Option Addr) (ps : List Slot) (vs' : List Value) (xss : List (List UInt8)) (w : World) (hk : Bk w gk (bookCs 0 (.slice Ab m cb) (.slice Aw m cw) (.slice none 0 0))) (h : LS w base 5 1 40 Ab m cb ps (xss.map u8s)) (h' : RM w Aw m cw vs' xss) (hs : ∀ xs ∈ xss, xs.length ≤ 900000) (m1 : m ≤ 900000) (hb : base ≤ w.heap.size) :
    Calls Tryz.prog 20 #[.pointer (some ⟨gk, 0, none⟩)] w fun e w' => e = .returned (.bool true) ∧ Out (fun g => g = gk ∨ InPs ps g) w w' := by
  have hK : ∀ cs ∈ xss.map u8s, cs.length ≤ 900000 := fun cs hc => by
    obtain ⟨xs, hx, rfl⟩ := List.mem_map.1 hc
    rw [u8s_length]; exact hs xs hx
  have HK := hideIt hK
  have HB := hideIt hb
  have UN := Untouched_b gk m cb cw 0 Ab Aw _ _ _ xss w hk h.read.rm h' (by omega)
  clear hK hb hs h'
  go_enter Tryz.func20, Tryz.ntmps20
  go_upto_region 2 with (go_at_call 67; refine UN.mono ?_; rintro en w1 ⟨rfl, j1, h1⟩; have H1 := hideIt h1; clear h1)
  have d1 : Below w.heap.size w w1 := below_same (below_drewN (Below.refl _ _) j1) H1.out
  have bk1 := hk.below d1
  have ls1 := h.below d1
  have ou1 : Out (fun g => g = gk ∨ InPs ps g) w w1 := Out.of_below d1
  have HL0 := hideIt h
  clear UN hk h d1 H1
  have WR := write_b gk base m cb 0 Ab _ _ ps _ w1 bk1 ls1 (ShortB.of HK.out) (by omega)
  clear bk1 ls1
  go_upto_region 3 with (go_at_call 68; refine WR.mono ?_; intro en w2 q2; obtain ⟨v2, rfl, css2, ls2, sh2, mk2, bk2, o2⟩ := q2)
  have ou2 := ou1.trans o2 (fun g q => Or.inl (Or.inr q))
  clear WR ou1 o2
  have HO := Holds_b gk m cb 0 0 0 Ab none _ ps [] css2 [] w2 bk2 ls2.read mk2 sh2 (RS.none _ _) (Or.inl rfl) (MarkedB.nil _ _ _) (fun cs hc => by cases hc) (by omega)
  clear mk2
  go_upto_region 4 with (go_at_call 69; refine HO.mono ?_; rintro en wx ⟨rfl, rfl⟩)
  have cp := OC.cell bk2 1 (.int .i64 0) rfl
  have fp := OC.free bk2 1
  have bk3 : Bk (w2.setCell ⟨gk, 1, none⟩ (.int .i64 1)) gk (bookCs 1 (.slice Ab m cb) (.slice Aw m cw) (.slice none 0 0)) := OC.set bk2 1 (.int .i64 1)
  have ls3 := ls2.booked bk2 (by decide) (by decide) 1 (.int .i64 1)
  have ou3 := ou2.grow (gset w2 gk 1 (.int .i64 1)) (fun g q => by cases q; exact Or.inl (Or.inl rfl))
  have SH2 := hideIt sh2
  clear HO bk2 ls2 ou2 sh2
  go_upto_region 5 with fail
  clear cp fp
  generalize w2.setCell ⟨gk, 1, none⟩ (.int .i64 1) = w3 at bk3 ls3 ou3 ⊢
  have WR := write_b gk base m cb 1 Ab _ _ ps _ w3 bk3 ls3 SH2.out (by omega)
  clear bk3 ls3 SH2
  go_upto_region 6 with (go_at_call 68; refine WR.mono ?_; intro en w4 q4; obtain ⟨v4, rfl, css4, ls4, sh4, mk4, bk4, o4⟩ := q4)
  have ou4 := ou3.trans o4 (fun g q => Or.inl (Or.inr q))
  have HK4 := hideIt (HL0.out.lens ls4 HK.out)
  clear WR ou3 o4
  have HO := Holds_b gk m cb 0 0 1 Ab none _ ps [] css4 [] w4 bk4 ls4.read mk4 sh4 (RS.none _ _) (Or.inl rfl) (MarkedB.nil _ _ _) (fun cs hc => by cases hc) (by omega)
  go_upto_region 7 with (go_at_call 69; refine HO.mono ?_; rintro en wx ⟨rfl, rfl⟩)
  rcases Nat.eq_zero_or_pos m with hm | hm
  · subst hm
    have GZ := grow_zero gk cb 1 Ab _ _ w4 bk4
    clear bk4 ls4 sh4 mk4
    go_wp2_with (first
      | (go_at_call 69; refine HO.mono ?_; rintro en wx ⟨rfl, rfl⟩)
      | (go_at_call 70; refine GZ.mono ?_; rintro en wx ⟨v, rfl, rfl⟩))
    go_ret
    exact ⟨rfl, ou4⟩
  · have GB := grow_b gk base m cb 900000 1 Ab _ ps css4 w4 bk4 ls4 mk4 HK4.out (by decide) hm m1 (Nat.le_trans HB.out ou4.size)
    have MK4 := hideIt mk4
    have SH4 := hideIt sh4
    have Z4 := hideIt ou4.size
    clear HO bk4 ls4 sh4 mk4
    go_upto_region 8 with (go_at_call 70; refine GB.mono ?_; intro en w5 q5; obtain ⟨v5, rfl, ⟨qs, zss, Ag, cg, bk5, ra5, rg5, gr5, mk5, len5⟩, o5⟩ := q5)
    have ou5 := ou4.trans o5 (fun g q => by
      rcases q with q | q | q
      · exact Or.inl (Or.inl q)
      · exact Or.inl (Or.inr q)
      · exact Or.inr (Nat.le_trans Z4.out q))
    have qm : qs.length = m := by rw [gr5.lq]; have := ra5.1; simpa using this
    have rg6 := GC.read rg5
    rw [show qs.take m = qs from List.take_of_length_le (by omega)] at rg6
    have HO := Holds_b gk m cb m cg 1 Ab Ag _ ps qs css4 zss w5 bk5 (gr5.old (GC.read ra5)) MK4.out SH4.out (gr5.now rg6) (Or.inr rfl) mk5 (fun cs hc => Nat.le_trans (len5 cs hc) (by decide)) (by omega)
    clear GB bk5 ra5 rg5 rg6 gr5 mk5 len5 o5 ou4 qm
    go_wp2_with (go_at_call 69; refine HO.mono ?_; rintro en wx ⟨rfl, rfl⟩)
    go_ret
    exact ⟨rfl, ou5⟩
end Go.Proofs.YtmeakhiiebeneaaGreatDoor
