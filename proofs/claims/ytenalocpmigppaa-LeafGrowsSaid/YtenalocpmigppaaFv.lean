/- coppicelaw4.LeafGrows. -/
import Derived.Test.YtenalocpmigppaaFr
namespace Go.Proofs.Ytenalocpmigppaa
open Go.RowKit

/-! ### fewer are smaller -/
theorem vl_two {x : Nat} (h : x ≤ 10000) : vl x ≤ 2 := by
  unfold vl
  by_cases hx : x < 128
  · rw [vF_small _ _ hx]; simp
  · rw [vF_big _ _ (by omega), List.length_cons, vF_small _ _ (show x / 128 < 128 by omega)]; simp
theorem sumT_less (p p' : Nat) (l : List It) (hp : p ≤ p') (h0 : l ≠ []) (h : ∀ x ∈ l, p' ≤ x.k.length) : sumT p' l + (p' - p) ≤ sumT p l := by
  have one : ∀ x : It, p' ≤ x.k.length → partT p' x + (p' - p) ≤ partT p x := by
    intro x hx
    have := vl_mono (x := x.k.length - p') (y := x.k.length - p) (by omega)
    unfold partT
    omega
  have all : ∀ l : List It, (∀ x ∈ l, p' ≤ x.k.length) → sumT p' l ≤ sumT p l := by
    intro l
    induction l with
    | nil => intro _; exact Nat.le_refl _
    | cons x l ih =>
      intro h
      have h1 := one x (h x (by simp))
      have h2 := ih fun y hy => h y (by simp [hy])
      rw [sumT, sumT]; omega
  cases l with
  | nil => exact absurd rfl h0
  | cons x l =>
    have h1 := one x (h x (by simp))
    have h2 := all l fun y hy => h y (by simp [hy])
    rw [sumT, sumT]; omega
theorem sumT_sub (p : Nat) {l' l : List It} (h : l'.Sublist l) : sumT p l' + 4 * l.length ≤ sumT p l + 4 * l'.length := by
  induction h with
  | slnil => exact Nat.le_refl _
  | cons a _ ih =>
    have h1 := vl_bounds (a.k.length - p)
    have h2 := vl_bounds (tagT (clampT a.s))
    rw [sumT, List.length_cons]
    unfold partT
    omega
  | cons_cons a _ ih =>
    rw [sumT, sumT, List.length_cons, List.length_cons]
    omega
theorem keysT_sub {l' l : List It} (h : l'.Sublist l) : (keysT l').Sublist (keysT l) := h.map _
theorem sizeT_fewer {l' l : List It} (h : l'.Sublist l) (hl : l'.length ≠ l.length) (hk : ∀ x ∈ l, x.k.length ≤ 10000) : sizeT l' < sizeT l := by
  have hlen := h.length_le
  by_cases h0 : l' = []
  · subst h0
    have h1 := sumT_ge (preT l) l
    have h2 := vl_bounds (preT l)
    have e : sizeT [] = 4 := by decide
    rw [e]
    unfold sizeT
    simp only [List.length_nil] at hl
    omega
  · have hp : preT l ≤ preT l' := comAll_sub (keysT_sub h) (by intro e; exact h0 (List.map_eq_nil_iff.1 e))
    have h1 := sumT_less (preT l) (preT l') l' hp h0 fun x hx => (preT_le l' x hx).2
    have h2 := sumT_sub (preT l) h
    have h3 := vl_bounds (preT l)
    have h4 : preT l' ≤ 10000 := by
      cases l' with
      | nil => exact absurd rfl h0
      | cons x m => exact Nat.le_trans (preT_le (x :: m) x (by simp)).2 (hk x (h.subset (by simp)))
    have h5 := vl_two h4
    unfold sizeT
    omega
/-- Of the first n those that the marks leave in. -/
def keepT (l : List It) (v : List Bool) (n : Nat) : List It := (List.range n).filterMap fun i => if v.getD i true then l[i]? else none
theorem keepT_out {l : List It} {v : List Bool} {n : Nat} (h : v.getD n true = false) : keepT l v (n + 1) = keepT l v n := by
  rw [List.getD_eq_getElem?_getD] at h
  unfold keepT
  rw [List.range_succ, List.filterMap_append]
  simp [h]
theorem keepT_in {l : List It} {v : List Bool} {n : Nat} {x : It} (h : v.getD n true = true) (hs : l[n]? = some x) : keepT l v (n + 1) = keepT l v n ++ [x] := by
  rw [List.getD_eq_getElem?_getD] at h
  unfold keepT
  rw [List.range_succ, List.filterMap_append]
  simp [List.filterMap, h, hs]
theorem keepT_sub (l : List It) (v : List Bool) (n : Nat) : (keepT l v n).Sublist (l.take n) := by
  induction n with
  | zero => simp [keepT]
  | succ n ih =>
    rcases hb : v.getD n true with _ | _
    · rw [keepT_out hb, List.take_add_one]
      exact ih.trans (List.sublist_append_left _ _)
    · rcases hs : l[n]? with _ | s
      · have e : keepT l v (n + 1) = keepT l v n := by
          unfold keepT
          rw [List.range_succ, List.filterMap_append]
          simp [hs]
        rw [e, List.take_add_one, hs]
        simpa using ih
      · rw [keepT_in hb hs, List.take_add_one, hs]
        exact ih.append (List.Sublist.refl _)
theorem keepT_all (l : List It) (v : List Bool) : (keepT l v l.length).Sublist l := by
  have := keepT_sub l v l.length
  rwa [List.take_length] at this

/-- A row that grows, of items whose lists lie in older memory. -/
structure AT (w0 w : World) (A : Option Addr) (n c : Nat) (zs : List Cel) : Prop where
  row : GC w w0.heap.size 48 4 A n c (itvs zs)
  each : ∀ z ∈ zs, RB w0 z.p.1 z.p.2.1 z.p.2.2 z.x.k ∧ RB w0 z.q.1 z.q.2.1 z.q.2.2 z.x.v
theorem AT.nil (w0 w : World) : AT w0 w none 0 0 [] := ⟨GC.nil _ _ _ _, fun z h => by cases h⟩
theorem AT.below {w0 w w' : World} {A : Option Addr} {n c : Nat} {zs : List Cel} (h : AT w0 w A n c zs) (b : Below w.heap.size w w') : AT w0 w' A n c zs := ⟨GC.below h.row b, h.each⟩
theorem AT.n {w0 w : World} {A : Option Addr} {n c : Nat} {zs : List Cel} (h : AT w0 w A n c zs) : zs.length = n := by
  have := h.row.1; rw [itvs_length] at this; omega
theorem AT.read {w0 w : World} {A : Option Addr} {n c : Nat} {zs : List Cel} (h : AT w0 w A n c zs) (b : Below w0.heap.size w0 w) : RT w A n c (itvs zs) (its zs) :=
  ⟨GC.read h.row, by rw [its_length, h.n], fun j x hj => by
    obtain ⟨z, hz, rfl⟩ : ∃ z, zs[j]? = some z ∧ z.x = x := by
      unfold its at hj
      rw [List.getElem?_map] at hj
      rcases hz : zs[j]? with _ | z
      · rw [hz] at hj; cases hj
      · rw [hz] at hj; cases hj; exact ⟨z, rfl, rfl⟩
    obtain ⟨e1, e2, e3, e4⟩ := itvs_get zs j z hz
    have hm := h.each z (List.mem_of_getElem? hz)
    exact ⟨z.p, z.q, e1, e2, e3, e4, hm.1.below b, hm.2.below b⟩⟩
theorem AT.push {w0 w w' : World} {A : Option Addr} {n c g c2 : Nat} {zs : List Cel} {z : Cel} (h : AT w0 w A n c zs) (hk : RB w0 z.p.1 z.p.2.1 z.p.2.2 z.x.k) (hv : RB w0 z.q.1 z.q.2.1 z.q.2.2 z.x.v) (o : OC w' 48 4 g (n + 1) c2 (itvs zs ++ itv z)) (hg : w0.heap.size ≤ g) :
    AT w0 w' (some ⟨g, 0, none⟩) (n + 1) c2 (zs ++ [z]) := by
  refine ⟨by rw [itvs_append, itvs_one']; exact GC.of o hg, fun y hy => ?_⟩
  rcases List.mem_append.1 hy with hy | hy
  · exact h.each y hy
  · rw [List.mem_singleton] at hy
    subst hy
    exact ⟨hk, hv⟩
theorem markT_at {w : World} {A : Option Addr} {n c : Nat} {v : List Bool} (h : RC w 1 A n c (v.map .bool)) (i : Nat) (hi : i < n) : ∃ ad b, A = some ad ∧ v.getD i true = b ∧ w.cell? (ad.add i) = some (.bool b) := by
  obtain ⟨ad, u, e, hu, hc⟩ := h.at_ i hi
  have hl : i < v.length := by have := h.len; simp at this; omega
  rw [List.getElem?_map, List.getElem?_eq_getElem hl] at hu
  cases hu
  exact ⟨ad, _, e, by rw [List.getD_eq_getElem?_getD, List.getElem?_eq_getElem hl]; rfl, hc⟩
theorem markT_out {w : World} {A : Option Addr} {n c : Nat} {v : List Bool} (h : RC w 1 A n c (v.map .bool)) (i : Nat) (hi : n ≤ i) : v.getD i true = true := by
  have hl : v.length ≤ i := by have := h.len; simp at this; omega
  rw [List.getD_eq_getElem?_getD, List.getElem?_eq_none hl]; rfl

set_option maxRecDepth 100000 in
set_option maxHeartbeats 4000000 in
theorem LeafGrows_walk (A : Option Addr) (n c : Nat) (vs : List Value) (l : List It) (B : Option Addr) (m d : Nat) (v : List Bool) (w : World) (h : RT w A n c vs l) (hv : RC w 1 B m d (v.map .bool)) :
    Calls Try.prog 8 #[.slice A n c, .slice B m d] w fun e w' => e = .returned (.bool true) ∧ Below w.heap.size w w' := by
  have F1 := fun W q => short_calls A n c vs l W q
  obtain ⟨f, hf⟩ : ∃ f, shortT l = f := ⟨_, rfl⟩
  rw [hf] at F1
  have HF := hideIt hf
  clear hf
  have HL := hideIt h.len
  go_enter Try.func8, Try.ntmps8
  go_upto_region 2 with (go_at_call 11; refine (first_calls _).mono ?_; rintro en w1 ⟨rfl, b1⟩)
  have h1 := h.below b1
  cases f
  · go_wp2_with (go_at_call 12; refine (F1 _ h1).mono ?_; rintro en wx ⟨rfl, rfl⟩)
    go_ret
    exact ⟨rfl, b1⟩
  have ff := short_few HF.out h.len
  have n7 := (short_of HF.out).1
  rw [h.len] at n7
  have mm := hv.mx
  have ml := hv.le
  rw [maxLen_is] at mm
  have v1 := hv.below b1
  go_upto_region 4 with (go_at_call 12; refine (F1 _ h1).mono ?_; rintro en wx ⟨rfl, rfl⟩)
  clear F1 h hv
  go_wp2
  go_loopw [6, 7] (fun ll ii wr => ∃ (i q c3 : Nat) (A3 : Option Addr) (zs : List Cel), i ≤ n ∧ q ≤ i ∧ ll = .slice A3 q c3 ∧ ii = .int .i64 (i : Int) ∧ Hid (its zs = keepT l v i) ∧ AT w1 wr A3 q c3 zs ∧ Below w1.heap.size w1 wr)
    (fun _ ii _ => n - (intOf ii).toNat)
  case atStart => exact ⟨0, 0, 0, none, [], by omega, Nat.le_refl _, rfl, rfl, hideIt rfl, AT.nil _ _, Below.refl _ _⟩
  case round =>
    obtain ⟨i, q, c3, A3, zs, hi, hq, rfl, rfl, HZ, am, bw⟩ := hrel
    by_cases hlt : i < n
    · obtain ⟨ad, ⟨P1, n1, c1⟩, ⟨P2, n2, c2⟩, x, rfl, hs, it, rk, rv⟩ := h1.row i hlt
      obtain ⟨i0, i2, i3, i4⟩ := it.below bw
      simp only at i0 i2 i3 i4 rk rv
      have j1 : (i : Int) < (n : Int) := by omega
      clear it
      by_cases hm : m ≤ i
      · have gl := markT_out v1 i hm
        have ST := hideIt (keepT_in gl hs)
        have t1 : decide ((m : Int) ≤ (i : Int)) = true := decide_eq_true (by omega)
        have ba := below1 wr (.cells #[.slice P1 n1 c1, .slice P2 n2 c2, .int .i64 x.s, .int .i64 x.f] 48)
        have am2 := am.below ba
        have b2 : Below w1.heap.size w1 _ := blw_step bw ba
        have R3 := it_cell wr ⟨(P1, n1, c1), (P2, n2, c2), x⟩
        clear gl hs
        go_wp2_with (with_reducible refine wpT_app rfl (.tmp 35) (.tmp 40) rfl w1.heap.size _ _ _ _ rfl am2.row _ ⟨(P1, n1, c1), (P2, n2, c2), x⟩ rfl (OC.read R3) (by omega) b2.size ?_; intro g5 c5 w5 q5 o5 k5)
        have am5 := am2.push rk rv o5 q5
        have b5 := GC.under am2.row b2 k5 b2.size
        go_roundw
        case rel => exact ⟨i + 1, q + 1, c5, _, _, by omega, by omega, rfl, by go_num, hideIt (by rw [its_append, HZ.out, ST.out]; rfl), am5, b5⟩
        case measure => simp [intOf]; omega
      · have t1 : decide ((m : Int) ≤ (i : Int)) = false := decide_eq_false (by omega)
        have j2 : (i : Int) < (m : Int) := by omega
        obtain ⟨ad2, b, rfl, hb, cb0⟩ := markT_at v1 i (by omega)
        have cb := (bw.cell (p := ad2.add i) (World.block_lt_of_cell? w1 _ cb0)).trans cb0
        clear cb0
        cases b
        · have ST := hideIt (keepT_out (l := l) hb)
          clear hb hs
          go_wp2
          go_roundw
          case rel => exact ⟨i + 1, q, c3, _, _, by omega, by omega, rfl, by go_num, hideIt (by rw [HZ.out, ST.out]), am, bw⟩
          case measure => simp [intOf]; omega
        · have ST := hideIt (keepT_in hb hs)
          have ba := below1 wr (.cells #[.slice P1 n1 c1, .slice P2 n2 c2, .int .i64 x.s, .int .i64 x.f] 48)
          have am2 := am.below ba
          have b2 : Below w1.heap.size w1 _ := blw_step bw ba
          have R3 := it_cell wr ⟨(P1, n1, c1), (P2, n2, c2), x⟩
          clear hb hs
          go_wp2_with (with_reducible refine wpT_app rfl (.tmp 35) (.tmp 40) rfl w1.heap.size _ _ _ _ rfl am2.row _ ⟨(P1, n1, c1), (P2, n2, c2), x⟩ rfl (OC.read R3) (by omega) b2.size ?_; intro g5 c5 w5 q5 o5 k5)
          have am5 := am2.push rk rv o5 q5
          have b5 := GC.under am2.row b2 k5 b2.size
          go_roundw
          case rel => exact ⟨i + 1, q + 1, c5, _, _, by omega, by omega, rfl, by go_num, hideIt (by rw [its_append, HZ.out, ST.out]; rfl), am5, b5⟩
          case measure => simp [intOf]; omega
    · obtain rfl : n = i := by omega
      have sub := keepT_all l v
      rw [HL.out] at sub
      have kq := am.n
      have rq := am.read bw
      have hn1 := h1.below bw
      rw [← its_length, HZ.out] at kq
      rw [HZ.out] at rq
      have sl := (short_of HF.out).2
      have FK : FewT q (keepT l v n) := ⟨by omega, fun x hx => by have := sl x (sub.subset hx); omega⟩
      have key : Hid ((q = n → sizeT (keepT l v n) = sizeT l) ∧ (q ≠ n → sizeT (keepT l v n) < sizeT l)) := hideIt ⟨fun e => by
          rw [sub.eq_of_length (by rw [kq, HL.out, e])], fun e => sizeT_fewer sub (by rw [kq, HL.out]; exact e) (fun x hx => by have := sl x hx; omega)⟩
      generalize keepT l v n = K at kq rq FK key sub
      have S1 := Size_calls _ _ _ _ _ _ hn1 ff
      have S2 := fun W hq => Size_calls A3 q c3 (itvs zs) K W hq FK
      have b3 := blw_step b1 bw
      generalize sizeT l = Z at S1 key
      generalize sizeT K = Y at S2 key
      clear sub am kq bw h1 v1 hn1 ff FK HF HL HZ sl
      by_cases e : q = n
      · have hy := key.out.1 e
        subst hy
        have t1 : ((q : Int) == (n : Int)) = true := by rw [e]; exact beq_self_eq_true _
        clear key e
        go_wp2_with (first
          | (go_at_call 14; with_reducible refine (S2 _ r8).mono ?_; rintro en w9 ⟨rfl, x9⟩; have b9 := blw_step b8 x9)
          | (go_at_call 14; with_reducible refine S1.mono ?_; rintro en w8 ⟨rfl, x8⟩; have r8 := rq.below x8; have b8 := blw_step b3 x8))
        go_ret
        exact ⟨rfl, b9⟩
      · have hy := key.out.2 e
        have t1 : ((q : Int) == (n : Int)) = false := beq_eq_false_iff_ne.2 (by omega)
        have t2 : decide (Y < Z) = true := decide_eq_true (by omega)
        clear key e hy
        go_wp2_with (first
          | (go_at_call 14; with_reducible refine (S2 _ r8).mono ?_; rintro en w9 ⟨rfl, x9⟩; have b9 := blw_step b8 x9)
          | (go_at_call 14; with_reducible refine S1.mono ?_; rintro en w8 ⟨rfl, x8⟩; have r8 := rq.below x8; have b8 := blw_step b3 x8))
        go_ret
        exact ⟨rfl, b9⟩
end Go.Proofs.Ytenalocpmigppaa
