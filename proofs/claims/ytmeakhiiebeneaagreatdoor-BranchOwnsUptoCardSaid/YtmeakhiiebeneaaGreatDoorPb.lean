/- Slices of kids; branch.isKid, branch.Size, branch.wrong. -/
import Derived.Test.YtmeakhiiebeneaaGreatDoorM2
import Derived.Test.YtmeakhiiebeneaaGreatDoorM1
import Derived.Test.YtmeakhiiebeneaaGreatDoorKeyP
import Derived.Test.YtmeakhiiebeneaaGreatDoorM3
import Derived.Deep.CutRange
namespace Go.Proofs.YtmeakhiiebeneaaGreatDoor
open Go.RowKit

/-! ### kids -/
def kidCells : List (Int × Int) → List Value
  | [] => []
  | k :: l => .int .i64 k.1 :: .int .i64 k.2 :: kidCells l
theorem kidCells_length (l : List (Int × Int)) : (kidCells l).length = l.length * 2 := by
  induction l with
  | nil => rfl
  | cons k l ih => rw [kidCells, List.length_cons, List.length_cons, ih, List.length_cons]; omega
theorem kidCells_append (a b : List (Int × Int)) : kidCells (a ++ b) = kidCells a ++ kidCells b := by
  induction a with
  | nil => rfl
  | cons k a ih => rw [List.cons_append, kidCells, kidCells, ih]; rfl
theorem kidCells_get (l : List (Int × Int)) (j : Nat) (k : Int × Int) (h : l[j]? = some k) : (kidCells l)[j * 2]? = some (.int .i64 k.1) ∧ (kidCells l)[j * 2 + 1]? = some (.int .i64 k.2) := by
  induction l generalizing j with
  | nil => simp at h
  | cons x l ih =>
    cases j with
    | zero =>
      simp at h; subst h
      exact ⟨rfl, rfl⟩
    | succ j =>
      have := ih j (by simpa using h)
      rw [show (j + 1) * 2 = j * 2 + 1 + 1 by omega]
      exact this
theorem kidCells_one (l : List (Int × Int)) : ∀ u ∈ kidCells l, u.oneCell' = true := by
  induction l with
  | nil => intro u hu; cases hu
  | cons k l ih =>
    intro u hu
    rw [kidCells] at hu
    rcases List.mem_cons.1 hu with rfl | hu
    · rfl
    · rcases List.mem_cons.1 hu with rfl | hu
      · rfl
      · exact ih u hu
/-- A slice of kids that reads as l. -/
def RK (w : World) (A : Option Addr) (n c : Nat) (l : List (Int × Int)) : Prop := RC w 2 A n c (kidCells l)
theorem RK.len {w : World} {A : Option Addr} {n c : Nat} {l : List (Int × Int)} (h : RK w A n c l) : l.length = n := by have := RC.len h; rw [kidCells_length] at this; omega
theorem RK.below {w w' : World} {A : Option Addr} {n c : Nat} {l : List (Int × Int)} (h : RK w A n c l) (hb : Below w.heap.size w w') : RK w' A n c l := RC.below h hb
theorem RK.max {w : World} {A : Option Addr} {n c : Nat} {l : List (Int × Int)} (h : RK w A n c l) : n ≤ 9223372036854775807 := by
  have h1 := RC.le h; have h2 := RC.mx h; rw [maxLen_is] at h2; omega
theorem RK.at_ {w : World} {A : Option Addr} {n c : Nat} {l : List (Int × Int)} (h : RK w A n c l) (j : Nat) (hj : j < n) : ∃ ad x y, A = some ad ∧ l[j]? = some (x, y) ∧ w.cell? (ad.add (j * 2)) = some (.int .i64 x) ∧ w.cell? ⟨(ad.add (j * 2)).block, (ad.add (j * 2)).off + 1, none⟩ = some (.int .i64 y) := by
  obtain ⟨ad, e, hc⟩ := RC.drop0 h (by omega)
  have hk : l[j]? = some (l[j]'(by rw [h.len]; exact hj)) := List.getElem?_eq_getElem _
  obtain ⟨g1, g2⟩ := kidCells_get l j _ hk
  refine ⟨ad, _, _, e, hk, hc _ _ g1, ?_⟩
  have := hc _ _ g2
  rw [← Addr.add_add, Addr.add_succ'] at this
  exact this
theorem info_kid : (Tryz.prog.info? 124).map (fun i => (i.zero, i.size, i.bytes)) = some (some (.agg #[.int .i64 0, .int .i64 0]), 2, 16) := by kernel_rfl
def GK (w : World) (base : Nat) (A : Option Addr) (n c : Nat) (l : List (Int × Int)) : Prop := GC w base 124 2 A n c (kidCells l)
theorem GK.read {w : World} {base n c : Nat} {A : Option Addr} {l : List (Int × Int)} (h : GK w base A n c l) : RK w A n c l := GC.read h
/-- append of one kid. -/
theorem wpK_app {w : World} {ops : Array Oper} {rest : List Oper} {o : Oper} {a : Act} {Q : Exit → Act → World → Prop} (hgd : o.guard = none) (s x : Operand) (ho : o.op = .call { callee := .builtin .append, args := #[s, x], argTypes := #[78, 78] })
    (base : Nat) (A : Option Addr) (n c : Nat) (l : List (Int × Int)) (hs : a.eval s = .slice A n c) (hown : GK w base A n c l)
    (ad : Addr) (k : Int × Int) (hx : a.eval x = .slice (some ad) 1 1) (hr : RK w (some ad) 1 1 [k]) (hb : n + 1 ≤ 1000000) (hbase : base ≤ w.heap.size)
    (h : ∀ g' c' w', base ≤ g' → GK w' base (some ⟨g', 0, none⟩) (n + 1) c' (l ++ [k]) → w.grownBy w' (A.map (·.block)) → wpList Tryz.prog ops Q rest (a.put o.dst (.slice (some ⟨g', 0, none⟩) (n + 1) c')) w') :
    wpList Tryz.prog ops Q (o :: rest) a w := by
  obtain ⟨i0, hi, hz0, hz1, hz2⟩ := info_parts info_kid
  refine wpG_app hgd s x 78 ho base 124 i0 (.agg #[.int .i64 0, .int .i64 0]) 2 16 Tryz.underlying78 hi hz0 hz1 hz2 rfl (by decide) A n c (kidCells l) hs hown ad 1 1 (kidCells [k]) hx hr (kidCells_one [k]) (by decide) (by omega) (by rw [maxLen_is]; omega) hbase ?_
  intro g' c' w' h1 h2 h3
  rw [← kidCells_append] at h2
  exact h g' c' w' h1 (GC.of h2 h1) h3
theorem RK.one (w : World) (x y : Int) : RK (w.alloc (.cells #[.int .i64 x, .int .i64 y] 124)) (some ⟨w.heap.size, 0, none⟩) 1 1 [(x, y)] :=
  OC.read (e := 124) (OC.mk rfl _ (heap_alloc_new w _) (Nat.le_refl _) (by rw [maxLen_is]; omega) rfl rfl)

set_option maxHeartbeats 2000000 in
theorem isKid_calls (x y : Int) (w : World) :
    Calls Tryz.prog 177 #[.agg #[.int .i64 x, .int .i64 y]] w fun e w' => e = .returned (.bool (kidOk (x, y))) ∧ Below w.heap.size w w' := by
  have b0 := below1 w (.cells #[.int .i64 x, .int .i64 y] 124)
  by_cases h1 : 2 ≤ x
  · by_cases h2 : x < 524287
    · by_cases h3 : 1 ≤ y
      · by_cases h4 : y ≤ 4294967295
        · rw [show kidOk (x, y) = true from decide_eq_true ⟨h1, by omega, h3, h4⟩]
          go_enter Tryz.func177, Tryz.ntmps177
          go_wp2
          go_ret
          exact ⟨ret_bool1 (by simp [*]), b0⟩
        · rw [show kidOk (x, y) = false from decide_eq_false (fun q => h4 q.2.2.2)]
          have h4' : decide (y ≤ 4294967295) = false := decide_eq_false h4
          clear h4
          go_enter Tryz.func177, Tryz.ntmps177
          go_wp2
          go_ret
          exact ⟨ret_bool1 (by simp [*]), b0⟩
      · rw [show kidOk (x, y) = false from decide_eq_false (fun q => h3 q.2.2.1)]
        have h3' : decide (1 ≤ y) = false := decide_eq_false h3
        clear h3
        go_enter Tryz.func177, Tryz.ntmps177
        go_wp2
        go_ret
        exact ⟨rfl, b0⟩
    · rw [show kidOk (x, y) = false from decide_eq_false (fun q => h2 (by have := q.2.1; simp only at this; omega))]
      have h2' : decide (x < 524287) = false := decide_eq_false h2
      clear h2
      go_enter Tryz.func177, Tryz.ntmps177
      go_wp2
      go_ret
      exact ⟨rfl, b0⟩
  · rw [show kidOk (x, y) = false from decide_eq_false (fun q => h1 q.1)]
    have h1' : decide (2 ≤ x) = false := decide_eq_false h1
    clear h1
    go_enter Tryz.func177, Tryz.ntmps177
    go_wp2
    go_ret
    exact ⟨rfl, b0⟩

set_option maxHeartbeats 2000000 in
theorem refkid_calls (x y : Int) (w : World) :
    Calls Tryz.prog 97 #[.agg #[.int .i64 x, .int .i64 y]] w fun e w' => e = .returned (.bool (kidOk (x, y))) ∧ Below w.heap.size w w' := by
  have b0 := below1 w (.cells #[.int .i64 x, .int .i64 y] 124)
  by_cases h1 : 2 ≤ x
  · by_cases h2 : x ≤ 524286
    · by_cases h3 : 1 ≤ y
      · by_cases h4 : y ≤ 4294967295
        · rw [show kidOk (x, y) = true from decide_eq_true ⟨h1, by omega, h3, h4⟩]
          go_enter Tryz.func97, Tryz.ntmps97
          go_wp2
          go_ret
          exact ⟨ret_bool1 (by simp [*]), b0⟩
        · rw [show kidOk (x, y) = false from decide_eq_false (fun q => h4 q.2.2.2)]
          have h4' : decide (y ≤ 4294967295) = false := decide_eq_false h4
          clear h4
          go_enter Tryz.func97, Tryz.ntmps97
          go_wp2
          go_ret
          exact ⟨ret_bool1 (by simp [*]), b0⟩
      · rw [show kidOk (x, y) = false from decide_eq_false (fun q => h3 q.2.2.1)]
        have h3' : decide (1 ≤ y) = false := decide_eq_false h3
        clear h3
        go_enter Tryz.func97, Tryz.ntmps97
        go_wp2
        go_ret
        exact ⟨rfl, b0⟩
    · rw [show kidOk (x, y) = false from decide_eq_false (fun q => h2 (by have := q.2.1; simp only at this; omega))]
      have h2' : decide (x ≤ 524286) = false := decide_eq_false h2
      clear h2
      go_enter Tryz.func97, Tryz.ntmps97
      go_wp2
      go_ret
      exact ⟨rfl, b0⟩
  · rw [show kidOk (x, y) = false from decide_eq_false (fun q => h1 q.1)]
    have h1' : decide (2 ≤ x) = false := decide_eq_false h1
    clear h1
    go_enter Tryz.func97, Tryz.ntmps97
    go_wp2
    go_ret
    exact ⟨rfl, b0⟩

theorem VLen_vl (x : Nat) (w : World) (hx : x < 18446744073709551616) : Calls Tryz.prog 73 #[.int .u64 (x : Int)] w fun e w' => e = .returned (.int .i64 (vl x : Nat)) ∧ w = w' := VLen_calls x w hx
theorem refVLen_vl (x : Nat) (w : World) (hx : x < 18446744073709551616) : Calls Tryz.prog 173 #[.int .u64 (x : Int)] w fun e w' => e = .returned (.int .i64 (vl x : Nat)) ∧ w = w' := refVLen_calls x w hx
theorem u64_small (x : Nat) (h : x ≤ 1000000) : IntKind.u64.wrap (x : Int) = (x : Int) := by rw [IntKind.wrap_u64]; omega
/-- few and short enough that no sum wraps. -/
structure Few (n : Nat) (l : List (List UInt8)) : Prop where
  n : n ≤ 70000
  s : ∀ x ∈ l, x.length ≤ 10000
theorem Few.sum {n : Nat} {l : List (List UInt8)} (h : Few n l) (hl : l.length = n) (p : Nat) : sumP p l ≤ 701400000 := by
  have h1 := sumP_le p 10000 l h.s
  have h2 : l.length * (10000 + 20) ≤ 70000 * (10000 + 20) := Nat.mul_le_mul_right _ (by rw [hl]; exact h.n)
  omega
theorem Few.pre {n : Nat} {l : List (List UInt8)} (h : Few n l) : Key.comAll l ≤ 10000 := by
  cases l with
  | nil => exact Nat.zero_le _
  | cons x l =>
    have h1 := (pre_take (x :: l) x (by simp)).2
    have h2 := h.s x (by simp)
    omega

set_option maxRecDepth 100000 in
set_option maxHeartbeats 2000000 in
theorem Size_calls (A : Option Addr) (n c : Nat) (vs : List Value) (l : List (List UInt8)) (w : World) (h : RM w A n c vs l) (hf : Few n l) :
    Calls Tryz.prog 96 #[.slice A n c] w fun e w' => e = .returned (.int .i64 (sizeS l : Nat)) ∧ Below w.heap.size w w' := by
  have hL := h.len
  have HL := hideIt hL
  have n7 := hf.n
  have hp := hf.pre
  have hsum := hf.sum hL
  have HM := hideIt (fun s (hs : s ∈ l) => And.intro (pre_take l s hs).2 (hf.s s hs))
  obtain ⟨r, hr⟩ : ∃ r, sizeS l = r := ⟨_, rfl⟩
  have hS : 12 + vl (Key.comAll l) + Key.comAll l + sumP (Key.comAll l) l = r := hr
  rw [hr]
  have CA := fun W q => CommonAll_calls A n c vs l W q
  generalize Key.comAll l = p at *
  have vb := (vl_bounds p).2
  have sl := hsum p
  have VP := fun W => VLen_vl p W (by omega)
  have up := u64_small p (by omega)
  generalize vl p = v at *
  have HS := hideIt hS
  clear hS hr hsum hL
  go_enter Tryz.func96, Tryz.ntmps96
  go_upto_region 3 with (first
    | (go_at_call 73; refine (VP _).mono ?_; rintro en wx ⟨rfl, rfl⟩)
    | (go_at_call 14; refine (CA _ h).mono ?_; rintro en w1 ⟨rfl, b1⟩))
  have h1 := h.below b1
  clear VP up CA
  go_wp2
  go_loopw [4, 17] (fun nn ii wr => ∃ (i N : Nat), i ≤ n ∧ ii = .int .i64 (i : Int) ∧ nn = .int .i64 (N : Int) ∧ Hid (N = 12 + v + p + sumP p (l.take i)) ∧ N ≤ 12 + v + p + 701400000 ∧ w1 = wr)
    (fun _ ii _ => n - (intOf ii).toNat)
  case atStart => exact ⟨0, 12 + v + p, by omega, rfl, by go_num, hideIt (by simp [sumP]), by omega, by trivial⟩
  case round =>
    obtain ⟨i, N, hi, rfl, rfl, HN, Nb, rfl⟩ := hrel
    by_cases hlt : i < n
    · obtain ⟨ad, Ai, ni, ci, s, rfl, hs, cell, rs⟩ := h1.row i hlt
      have hsl := rs.len
      have hm := HM.out s (List.mem_of_getElem? hs)
      have st := sumP_step p l i s hs
      have le := sumP_take_le p l (i + 1)
      obtain ⟨d, hd⟩ : ∃ d, ni - p = d := ⟨_, rfl⟩
      have hd2 : (ni : Int) - (p : Int) = (d : Int) := by omega
      have ud := u64_small d (by omega)
      have VD := fun W => VLen_vl d W (by omega)
      have db := (vl_bounds d).2
      have hpart : part p s = 10 + vl d + d := by unfold part; rw [hsl, hd]
      rw [hpart] at st
      rw [st] at le
      generalize vl d = u at *
      have ST := hideIt st
      have NN := HN.out
      have dl : d ≤ 10000 := by omega
      have pn : p ≤ ni := by omega
      have nl : ni ≤ 10000 := by omega
      have Nb2 : N + (10 + u + d) ≤ 12 + v + p + 701400000 := by omega
      have i1 : (i : Int) < (n : Int) := by omega
      have e1 : (10 : Int) + (u : Int) + (ni : Int) - (p : Int) = (10 : Int) + (u : Int) + (d : Int) := by omega
      clear hm st le hd hpart hs hsl NN
      go_wp2_with (go_at_call 73; refine (VD _).mono ?_; rintro en wx ⟨rfl, rfl⟩)
      go_roundw
      case rel => exact ⟨i + 1, N + (10 + u + d), by omega, by go_num, congrArg (Value.int .i64) (by omega), hideIt (by rw [HN.out, ST.out]; omega), Nb2, by trivial⟩
      case measure => simp [intOf]; omega
    · obtain rfl : n = i := by omega
      have et : l.take n = l := List.take_of_length_le (by rw [HL.out]; exact Nat.le_refl _)
      rw [et, HS.out] at HN
      obtain rfl := HN.out
      go_wp2
      go_ret
      exact ⟨rfl, b1⟩

def WR : Bool → Bool → Bool → Bool → Int
  | false, _, _, _ => 51
  | true, false, _, _ => 41
  | true, true, false, _ => 30
  | true, true, true, true => 42
  | true, true, true, false => 0
theorem wrong_wr {level : Int} {l : List (List UInt8)} {ks : List (Int × Int)} (h : shape level l.length ks.length = true) : wrongS level l ks = WR (ks.all kidOk) (l.all sepOk) (sorted l) (decide (4092 < sizeS l)) := by
  unfold wrongS
  rw [if_pos h]
  cases ks.all kidOk <;> cases l.all sepOk <;> cases sorted l <;> by_cases h5 : 4092 < sizeS l <;> simp [WR, h5]
theorem wrong_50 {level : Int} {l : List (List UInt8)} {ks : List (Int × Int)} (h : ¬ shape level l.length ks.length = true) : wrongS level l ks = 50 := by unfold wrongS; rw [if_neg h]
theorem sorted_step {l : List (List UInt8)} {i : Nat} {a b : List UInt8} (ha : l[i]? = some a) (hb : l[i + 1]? = some b) : sorted (l.drop i) = (decide (Key.cmpB a b < 0) && sorted (l.drop (i + 1))) := by
  obtain ⟨h1, e1⟩ := List.getElem?_eq_some_iff.1 ha
  obtain ⟨h2, e2⟩ := List.getElem?_eq_some_iff.1 hb
  rw [List.drop_eq_getElem_cons h1, List.drop_eq_getElem_cons h2, e1, e2]; rfl
theorem sorted_end {l : List (List UInt8)} {i : Nat} (h : l.length ≤ i + 1) : sorted (l.drop i) = true := by
  have : (l.drop i).length ≤ 1 := by rw [List.length_drop]; omega
  match l.drop i, this with
  | [], _ => rfl
  | [_], _ => rfl
  | _ :: _ :: _, h => simp at h
theorem all_step {α : Type} {f : α → Bool} {l : List α} {i : Nat} {x : α} (h : l[i]? = some x) : (l.drop i).all f = (f x && (l.drop (i + 1)).all f) := by
  obtain ⟨h1, e1⟩ := List.getElem?_eq_some_iff.1 h
  rw [List.drop_eq_getElem_cons h1, e1, List.all_cons]
theorem all_end {α : Type} {f : α → Bool} {l : List α} {i : Nat} (h : l.length ≤ i) : (l.drop i).all f = true := by rw [List.drop_of_length_le h]; rfl

set_option maxRecDepth 100000 in
set_option maxHeartbeats 8000000 in
theorem wrong_calls (level : Int) (A : Option Addr) (n c : Nat) (vs : List Value) (l : List (List UInt8)) (B : Option Addr) (m d : Nat) (ks : List (Int × Int)) (w : World) (h : RM w A n c vs l) (hf : Few n l) (hk : RK w B m d ks) :
    Calls Tryz.prog 102 #[.int .i64 level, .slice A n c, .slice B m d] w fun e w' => e = .returned (.int .i64 (wrongS level l ks)) ∧ Below w.heap.size w w' := by
  have HL := hideIt h.len
  have HK := hideIt hk.len
  have n7 := hf.n
  have mk := hk.max
  by_cases hsh : shape level l.length ks.length = true
  · rw [wrong_wr hsh]
    have q := shape_iff.1 hsh
    rw [HL.out, HK.out] at q
    obtain ⟨q1, q2, q3, q4⟩ := q
    obtain ⟨r1, hr1⟩ : ∃ r, ks.all kidOk = r := ⟨_, rfl⟩
    obtain ⟨r2, hr2⟩ : ∃ r, l.all sepOk = r := ⟨_, rfl⟩
    obtain ⟨r3, hr3⟩ : ∃ r, sorted l = r := ⟨_, rfl⟩
    have S := fun W q => Size_calls A n c vs l W q hf
    generalize sizeS l = Z at S
    obtain ⟨r4, hr4⟩ : ∃ r, decide (4092 < Z) = r := ⟨_, rfl⟩
    rw [hr1, hr2, hr3, hr4]
    have H1 : Hid ((ks.drop 0).all kidOk = r1) := hideIt hr1
    have H2 : Hid ((l.drop 0).all sepOk = r2) := hideIt hr2
    have H3 : Hid (sorted (l.drop 0) = r3) := hideIt hr3
    have H4 := hideIt hr4
    have i1 : decide (level < 1) = false := decide_eq_false (by omega)
    have i2 : decide (15 < level) = false := decide_eq_false (by omega)
    have i3 : ((m : Int) == 0) = false := beq_eq_false_iff_ne.2 (by omega)
    have i4 : ((m : Int) != (n : Int) + 1) = false := by rw [bne_eq_false_iff_eq]; omega
    have Q4 := hideIt q4
    clear hr1 hr2 hr3 hr4 hsh q1 q2 q3 q4
    go_enter Tryz.func102, Tryz.ntmps102
    go_wp2
    go_loopw [33] (fun ii wr => ∃ i, i ≤ m ∧ ii = .int .i64 (i : Int) ∧ Hid ((ks.drop i).all kidOk = r1) ∧ Below w.heap.size w wr)
      (fun ii _ => m - (intOf ii).toNat)
    case atStart => exact ⟨0, by omega, rfl, H1, Below.refl _ _⟩
    case round =>
      clear H1
      obtain ⟨i, hi, rfl, H1, bw⟩ := hrel
      by_cases hlt : i < m
      · obtain ⟨ad, x, y, rfl, hx, c1, c2⟩ := (hk.below bw).at_ i hlt
        have st := all_step (f := kidOk) hx
        rw [H1.out] at st
        have ba := below1 wr (.cells #[.int .i64 x, .int .i64 y] 124)
        have b2 := blw_step bw ba
        have IK := fun W => isKid_calls x y W
        have j1 : (i : Int) < (m : Int) := by omega
        cases hko : kidOk (x, y)
        · rw [hko] at st IK
          rw [Bool.false_and] at st
          subst st
          clear hko hx
          go_wp2_with (go_at_call 177; refine (IK _).mono ?_; rintro en w2 ⟨rfl, b3⟩; have b4 := blw_step b2 b3)
          go_ret
          exact ⟨rfl, b4⟩
        · rw [hko] at st IK
          rw [Bool.true_and] at st
          have ST := hideIt st.symm
          clear hko hx st
          go_wp2_with (go_at_call 177; refine (IK _).mono ?_; rintro en w2 ⟨rfl, b3⟩; have b4 := blw_step b2 b3)
          go_roundw
          case rel => exact ⟨i + 1, by omega, by go_num, ST, b4⟩
          case measure => simp [intOf]; omega
      · obtain rfl : m = i := by omega
        rw [all_end (by rw [HK.out]; exact Nat.le_refl _)] at H1
        obtain rfl := H1.out
        clear H1
        go_wp2
        go_loopw [43] (fun ii wr => ∃ i, i ≤ n ∧ ii = .int .i64 (i : Int) ∧ Hid ((l.drop i).all sepOk = r2) ∧ Below w.heap.size w wr)
          (fun ii _ => n - (intOf ii).toNat)
        case atStart => exact ⟨0, by omega, rfl, H2, bw⟩
        case round =>
          clear H2 bw
          obtain ⟨i, hi, rfl, H2, bw⟩ := hrel
          by_cases hlt : i < n
          · obtain ⟨ad, Ai, ni, ci, s, rfl, hs, cell, rs⟩ := (h.below bw).row i hlt
            have st := all_step (f := sepOk) hs
            rw [H2.out] at st
            have hso : sepOk s = decide (1 ≤ ni ∧ ni ≤ 255) := by unfold sepOk; rw [rs.len]
            have j1 : (i : Int) < (n : Int) := by omega
            cases hko : sepOk s
            · rw [hko] at st hso
              rw [Bool.false_and] at st
              subst st
              have IK := fun W => Valid_calls Ai ni ci W false hso
              clear hko hs hso
              go_wp2_with (go_at_call 61; refine (IK _).mono ?_; rintro en wx ⟨rfl, rfl⟩)
              go_ret
              exact ⟨rfl, bw⟩
            · rw [hko] at st hso
              rw [Bool.true_and] at st
              have ST := hideIt st.symm
              have IK := fun W => Valid_calls Ai ni ci W true hso
              clear hko hs hso st
              go_wp2_with (go_at_call 61; refine (IK _).mono ?_; rintro en wx ⟨rfl, rfl⟩)
              go_roundw
              case rel => exact ⟨i + 1, by omega, by go_num, ST, bw⟩
              case measure => simp [intOf]; omega
          · obtain rfl : n = i := by omega
            rw [all_end (by rw [HL.out]; exact Nat.le_refl _)] at H2
            obtain rfl := H2.out
            clear H2
            go_wp2
            go_loopw [11] (fun ii wr => ∃ j : Nat, 1 ≤ j ∧ j ≤ n + 1 ∧ ii = .int .i64 (j : Int) ∧ Hid (sorted (l.drop (j - 1)) = r3) ∧ Below w.heap.size w wr)
              (fun ii _ => n + 2 - (intOf ii).toNat)
            case atStart => exact ⟨1, by omega, by omega, rfl, H3, bw⟩
            case round =>
              clear H3 bw
              obtain ⟨j, hj, hj2, rfl, H3, bw⟩ := hrel
              by_cases hlt : j < n
              · obtain ⟨ad, Ai, ni, ci, s, rfl, hs, cell, rs⟩ := (h.below bw).row (j - 1) (by omega)
                obtain ⟨ad', Aj, nj, cj, t, e', ht, cell', rt⟩ := (h.below bw).row j hlt
                cases e'
                have st := sorted_step hs (show l[j - 1 + 1]? = some t by rw [Nat.sub_add_cancel hj]; exact ht)
                rw [H3.out] at st
                have j1 : (j : Int) < (n : Int) := by omega
                have f1 : ((j : Int) - 1).toNat = j - 1 := by omega
                have f2 : (0 : Int) ≤ (j : Int) - 1 := by omega
                have f3 : (j : Int) - 1 < (n : Int) := by omega
                have CM := fun mm => (Compare_calls _ _ _ _ _ _ _ _ (wr.drewN mm) (drewB rs mm) (drewB rt mm)).mono fun _ _ ⟨a, b⟩ => (⟨a, b.symm⟩ : _ ∧ _)
                generalize Key.cmpB s t = z at CM st
                by_cases hz : z < 0
                · rw [decide_eq_true hz, Bool.true_and] at st
                  have ST := hideIt st.symm
                  have hz' : decide (0 ≤ z) = false := decide_eq_false (by omega)
                  clear st hs ht hz
                  go_wp2
                  go_quiet (first | (go_at_call 13; exact Calls.quiet_of_same (CM _)))
                  go_wp2
                  go_roundw
                  case rel => exact ⟨j + 1, by omega, by omega, by go_num, by rw [show j + 1 - 1 = j - 1 + 1 by omega]; exact ST, below_drewN bw _⟩
                  case measure => simp [intOf]; omega
                · rw [decide_eq_false hz, Bool.false_and] at st
                  subst st
                  have hz' : decide (0 ≤ z) = true := decide_eq_true (by omega)
                  clear hs ht hz
                  go_wp2
                  go_quiet (first | (go_at_call 13; exact Calls.quiet_of_same (CM _)))
                  go_wp2
                  go_ret
                  exact ⟨rfl, below_drewN bw _⟩
              · rw [sorted_end (by rw [HL.out]; omega)] at H3
                obtain rfl := H3.out
                have j1 : decide ((j : Int) < (n : Int)) = false := decide_eq_false (by omega)
                have hw := h.below bw
                by_cases hz : 4092 < Z
                · obtain rfl : r4 = true := by rw [← H4.out]; exact decide_eq_true hz
                  have j2 : (4092 : Int) < (Z : Int) := by omega
                  clear hz H3
                  go_wp2_with (go_at_call 96; refine (S _ hw).mono ?_; rintro en w2 ⟨rfl, b3⟩; have b4 := blw_step bw b3)
                  go_ret
                  exact ⟨rfl, b4⟩
                · obtain rfl : r4 = false := by rw [← H4.out]; exact decide_eq_false hz
                  have j2 : (Z : Int) ≤ 4092 := by omega
                  clear hz H3
                  go_wp2_with (go_at_call 96; refine (S _ hw).mono ?_; rintro en w2 ⟨rfl, b3⟩; have b4 := blw_step bw b3)
                  go_ret
                  exact ⟨rfl, b4⟩
  · rw [wrong_50 hsh]
    have hc : level < 1 ∨ 15 < level ∨ m = 0 ∨ m ≠ n + 1 := by
      have : ¬ (1 ≤ level ∧ level ≤ 15 ∧ m ≠ 0 ∧ m = n + 1) := fun q => hsh (shape_iff.2 (by rw [HL.out, HK.out]; exact q))
      omega
    clear hsh
    by_cases c1 : level < 1
    · have i1 : decide (level < 1) = true := decide_eq_true c1
      clear hc c1
      go_enter Tryz.func102, Tryz.ntmps102
      go_wp2
      go_ret
      exact ⟨rfl, Below.refl _ _⟩
    · have i1 : decide (level < 1) = false := decide_eq_false c1
      by_cases c2 : 15 < level
      · have i2 : decide (15 < level) = true := decide_eq_true c2
        clear hc c1 c2
        go_enter Tryz.func102, Tryz.ntmps102
        go_wp2
        go_ret
        exact ⟨rfl, Below.refl _ _⟩
      · have i2 : decide (15 < level) = false := decide_eq_false c2
        by_cases c3 : m = 0
        · subst c3
          clear hc c1 c2
          go_enter Tryz.func102, Tryz.ntmps102
          go_wp2
          go_ret
          exact ⟨rfl, Below.refl _ _⟩
        · have i3 : ((m : Int) == 0) = false := beq_eq_false_iff_ne.2 (by omega)
          have i4 : ((m : Int) != (n : Int) + 1) = true := by rw [bne_iff_ne]; omega
          clear hc c1 c2 c3
          go_enter Tryz.func102, Tryz.ntmps102
          go_wp2
          go_ret
          exact ⟨rfl, Below.refl _ _⟩
end Go.Proofs.YtmeakhiiebeneaaGreatDoor
