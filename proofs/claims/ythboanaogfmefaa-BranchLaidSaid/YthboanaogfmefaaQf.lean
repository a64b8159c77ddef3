/- coppicelaw5.BranchFewer. -/
import Derived.Test.YthboanaogfmefaaQe
namespace Go.Proofs.Ythboanaogfmefaa
open Go.RowKit

/-- A row that grows, of slices that lie in older memory. -/
structure AM (w0 w : World) (A : Option Addr) (n c : Nat) (vs : List Value) (xss : List (List UInt8)) : Prop where
  row : GC w w0.heap.size 28 1 A n c vs
  len : xss.length = n
  each : ∀ (j : Nat) (xs : List UInt8), xss[j]? = some xs → ∃ (Aj : Option Addr) (nj cj : Nat), vs[j]? = some (Value.slice Aj nj cj) ∧ RB w0 Aj nj cj xs
theorem AM.nil (w0 w : World) : AM w0 w none 0 0 [] [] := ⟨GC.nil _ _ _ _, rfl, fun j xs h => by simp at h⟩
theorem AM.below {w0 w w' : World} {A : Option Addr} {n c : Nat} {vs : List Value} {xss : List (List UInt8)} (h : AM w0 w A n c vs xss) (b : Below w.heap.size w w') : AM w0 w' A n c vs xss := ⟨GC.below h.row b, h.len, h.each⟩
theorem AM.read {w0 w : World} {A : Option Addr} {n c : Nat} {vs : List Value} {xss : List (List UInt8)} (h : AM w0 w A n c vs xss) (b : Below w0.heap.size w0 w) : RM w A n c vs xss :=
  ⟨GC.read h.row, h.len, fun j xs q => by
    obtain ⟨Aj, nj, cj, e, r⟩ := h.each j xs q
    exact ⟨Aj, nj, cj, e, r.below b⟩⟩
theorem AM.push {w0 w w' : World} {A A' : Option Addr} {n c n' c' g c2 : Nat} {vs : List Value} {xss : List (List UInt8)} {xs : List UInt8} (h : AM w0 w A n c vs xss) (r : RB w0 A' n' c' xs) (o : OC w' 28 1 g (n + 1) c2 (vs ++ [.slice A' n' c'])) (hg : w0.heap.size ≤ g) :
    AM w0 w' (some ⟨g, 0, none⟩) (n + 1) c2 (vs ++ [.slice A' n' c']) (xss ++ [xs]) := by
  have hv : vs.length = n := by have := h.row.1; omega
  refine ⟨GC.of o hg, by rw [List.length_append, h.len]; rfl, fun j ys q => ?_⟩
  by_cases hj : j < n
  · rw [List.getElem?_append_left (by rw [h.len]; exact hj)] at q
    obtain ⟨Aj, nj, cj, e, r'⟩ := h.each j ys q
    exact ⟨Aj, nj, cj, by rw [List.getElem?_append_left (by omega)]; exact e, r'⟩
  · rw [List.getElem?_append_right (by rw [h.len]; omega), h.len] at q
    have hj0 : j - n = 0 := by
      have := (List.getElem?_eq_some_iff.1 q).1
      simp at this; omega
    rw [hj0] at q
    cases q
    exact ⟨A', n', c', by rw [List.getElem?_append_right (by omega), hv, hj0]; rfl, r⟩
theorem mark_at {w : World} {A : Option Addr} {n c : Nat} {v : List Bool} (h : RC w 1 A n c (v.map .bool)) (i : Nat) (hi : i < n) : ∃ ad b, A = some ad ∧ v.getD i false = b ∧ w.cell? (ad.add i) = some (.bool b) := by
  obtain ⟨ad, u, e, hu, hc⟩ := h.at_ i hi
  have hl : i < v.length := by have := h.len; simp at this; omega
  rw [List.getElem?_map, List.getElem?_eq_getElem hl] at hu
  cases hu
  exact ⟨ad, _, e, by rw [List.getD_eq_getElem?_getD, List.getElem?_eq_getElem hl]; rfl, hc⟩
theorem mark_out {w : World} {A : Option Addr} {n c : Nat} {v : List Bool} (h : RC w 1 A n c (v.map .bool)) (i : Nat) (hi : n ≤ i) : v.getD i false = false := by
  have hl : v.length ≤ i := by have := h.len; simp at this; omega
  rw [List.getD_eq_getElem?_getD, List.getElem?_eq_none hl]; rfl

set_option maxRecDepth 100000 in
set_option maxHeartbeats 4000000 in
theorem BranchFewer_walk (A : Option Addr) (n c : Nat) (vs : List Value) (l : List (List UInt8)) (B : Option Addr) (m d : Nat) (v : List Bool) (w : World) (h : RM w A n c vs l) (hv : RC w 1 B m d (v.map .bool)) :
    Calls Try.prog 10 #[.slice A n c, .slice B m d] w fun e w' => e = .returned (.bool true) ∧ Below w.heap.size w w' := by
  have FW := fun W q => few_calls A n c vs l none 0 0 W q
  obtain ⟨f, hf⟩ : ∃ f, fewS l 0 = f := ⟨_, rfl⟩
  rw [hf] at FW
  have HF := hideIt hf
  clear hf
  have HL := hideIt h.len
  go_enter Try.func10, Try.ntmps10
  go_upto_region 2 with (go_at_call 12; refine (first_calls _).mono ?_; rintro en w1 ⟨rfl, b1⟩)
  have h1 := h.below b1
  cases f
  · go_wp2_with (go_at_call 13; refine (FW _ h1).mono ?_; rintro en wx ⟨rfl, rfl⟩)
    go_ret
    exact ⟨rfl, b1⟩
  have ff := few_few HF.out h.len
  have n7 := ff.n
  have mm := hv.mx
  have ml := hv.le
  rw [maxLen_is] at mm
  have v1 := hv.below b1
  go_upto_region 4 with (go_at_call 13; refine (FW _ h1).mono ?_; rintro en wx ⟨rfl, rfl⟩)
  clear FW h hv
  go_wp2
  go_loopw [6, 7] (fun ll ii wr => ∃ (i q c3 : Nat) (A3 : Option Addr) (vs3 : List Value), i ≤ n ∧ q ≤ i ∧ ll = .slice A3 q c3 ∧ ii = .int .i64 (i : Int) ∧ AM w1 wr A3 q c3 vs3 (keepF l v i) ∧ Below w1.heap.size w1 wr)
    (fun _ ii _ => n - (intOf ii).toNat)
  case atStart => exact ⟨0, 0, 0, none, [], by omega, Nat.le_refl _, rfl, rfl, AM.nil _ _, Below.refl _ _⟩
  case round =>
    obtain ⟨i, q, c3, A3, vs3, hi, hq, rfl, rfl, am, bw⟩ := hrel
    by_cases hlt : i < n
    · obtain ⟨ad, Ai, ni, ci, s, rfl, hs, cell0, rs⟩ := h1.row i hlt
      have cell := (bw.cell (p := ad.add i) (World.block_lt_of_cell? w1 _ cell0)).trans cell0
      have i1 : (i : Int) < (n : Int) := by omega
      clear cell0
      by_cases hm : m ≤ i
      · have gl := mark_out v1 i hm
        have st := keepF_in gl hs
        have ST := hideIt st
        have t1 : decide ((m : Int) ≤ (i : Int)) = true := decide_eq_true (by omega)
        have ba := below1 wr (.cells #[.slice Ai ni ci] 28)
        have am2 := am.below ba
        have b2 : Below w1.heap.size w1 _ := blw_step bw ba
        have R3 := sv_cell wr (Ai, ni, ci)
        clear gl st hs
        go_wp2_with (with_reducible refine wpM_app rfl (.tmp 36) (.tmp 41) rfl w1.heap.size _ _ _ _ rfl am2.row _ (Ai, ni, ci) rfl R3 (by omega) b2.size ?_; intro g5 c5 w5 q5 o5 k5)
        have am5 := am2.push rs o5 q5
        rw [← ST.out] at am5
        have b5 := GC.under am2.row b2 k5 b2.size
        go_roundw
        case rel => exact ⟨i + 1, q + 1, c5, _, _, by omega, by omega, rfl, by go_num, am5, b5⟩
        case measure => simp [intOf]; omega
      · have t1 : decide ((m : Int) ≤ (i : Int)) = false := decide_eq_false (by omega)
        have i2 : (i : Int) < (m : Int) := by omega
        obtain ⟨ad2, b, rfl, hb, cb0⟩ := mark_at v1 i (by omega)
        have cb := (bw.cell (p := ad2.add i) (World.block_lt_of_cell? w1 _ cb0)).trans cb0
        clear cb0
        cases b
        · have st := keepF_in hb hs
          have ST := hideIt st
          have ba := below1 wr (.cells #[.slice Ai ni ci] 28)
          have am2 := am.below ba
          have b2 : Below w1.heap.size w1 _ := blw_step bw ba
          have R3 := sv_cell wr (Ai, ni, ci)
          clear hb st hs
          go_wp2_with (with_reducible refine wpM_app rfl (.tmp 36) (.tmp 41) rfl w1.heap.size _ _ _ _ rfl am2.row _ (Ai, ni, ci) rfl R3 (by omega) b2.size ?_; intro g5 c5 w5 q5 o5 k5)
          have am5 := am2.push rs o5 q5
          rw [← ST.out] at am5
          have b5 := GC.under am2.row b2 k5 b2.size
          go_roundw
          case rel => exact ⟨i + 1, q + 1, c5, _, _, by omega, by omega, rfl, by go_num, am5, b5⟩
          case measure => simp [intOf]; omega
        · have st := keepF_out (l := l) hb
          have ST := hideIt st
          clear hb st hs
          go_wp2
          go_roundw
          case rel => exact ⟨i + 1, q, c3, _, _, by omega, by omega, rfl, by go_num, by rw [ST.out]; exact am, bw⟩
          case measure => simp [intOf]; omega
    · obtain rfl : n = i := by omega
      have sub := keepF_all l v
      rw [HL.out] at sub
      have kq := am.len
      have rq := am.read bw
      have hn1 := h1.below bw
      have FK : Few q (keepF l v n) := ⟨by omega, fun x hx => ff.s x (sub.subset hx)⟩
      have key : Hid ((q = n → sizeS (keepF l v n) = sizeS l) ∧ (q ≠ n → sizeS (keepF l v n) < sizeS l) ∧ 13 ≤ sizeS (keepF l v n)) := hideIt ⟨fun e => by
          rw [sub.eq_of_length (by rw [kq, HL.out, e])], fun e => size_fewer sub (by rw [kq, HL.out]; exact e), size_min _⟩
      generalize keepF l v n = K at kq rq FK key am
      have S1 := Size_calls _ _ _ _ _ _ hn1 ff
      have S2 := fun W hq => Size_calls A3 q c3 vs3 K W hq FK
      have b3 := blw_step b1 bw
      generalize sizeS l = Z at S1 key
      generalize sizeS K = Y at S2 key
      clear sub am kq bw h1 v1 hn1 ff FK HF HL
      by_cases e : q = n
      · have hy := key.out.1 e
        subst hy
        have t1 : ((q : Int) == (n : Int)) = true := by rw [e]; exact beq_self_eq_true _
        clear key e
        go_wp2_with (first
          | (go_at_call 15; with_reducible refine (S2 _ r8).mono ?_; rintro en w9 ⟨rfl, x9⟩; have b9 := blw_step b8 x9)
          | (go_at_call 15; with_reducible refine S1.mono ?_; rintro en w8 ⟨rfl, x8⟩; have r8 := rq.below x8; have b8 := blw_step b3 x8))
        go_ret
        exact ⟨rfl, b9⟩
      · have hy := key.out.2.1 e
        have hy2 := key.out.2.2
        have t1 : ((q : Int) == (n : Int)) = false := beq_eq_false_iff_ne.2 (by omega)
        have t2 : decide (Y < Z) = true := decide_eq_true (by omega)
        have t3 : decide ((13 : Int) ≤ (Y : Int)) = true := decide_eq_true (by omega)
        clear key e hy hy2
        go_wp2_with (first
          | (go_at_call 15; with_reducible refine (S2 _ r8).mono ?_; rintro en w9 ⟨rfl, x9⟩; have b9 := blw_step b8 x9)
          | (go_at_call 15; with_reducible refine S1.mono ?_; rintro en w8 ⟨rfl, x8⟩; have r8 := rq.below x8; have b8 := blw_step b3 x8))
        go_ret
        exact ⟨rfl, b9⟩
end Go.Proofs.Ythboanaogfmefaa
