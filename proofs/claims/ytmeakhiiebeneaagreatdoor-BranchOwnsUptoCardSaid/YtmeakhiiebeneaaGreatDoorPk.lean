/- coppiceref: SameKids, Kids, ByteLists. -/
import Derived.Test.YtmeakhiiebeneaaGreatDoorPc
import Derived.Test.YtmeakhiiebeneaaGreatDoorN5
namespace Go.Proofs.YtmeakhiiebeneaaGreatDoor
open Go.RowKit

theorem RK.drew_ {w : World} {A : Option Addr} {n c : Nat} {l : List (Int × Int)} (h : RK w A n c l) (m : Nat) : RK (w.drewN m) A n c l := h.below ⟨rfl, rfl, rfl, Nat.le_refl _, fun _ _ => rfl⟩
set_option maxRecDepth 100000 in
set_option maxHeartbeats 2000000 in
theorem SameKids_calls (A A' : Option Addr) (n c n' c' : Nat) (l l' : List (Int × Int)) (w : World) (h : RK w A n c l) (h' : RK w A' n' c' l') (r : Bool) (hr : r = decide (l = l')) :
    Calls Tryz.prog 50 #[.slice A n c, .slice A' n' c'] w fun e w' => e = .returned (.bool r) ∧ ∃ j, w' = w.drewN j := by
  have HL := hideIt h.len
  have HL' := hideIt h'.len
  have hmx : n ≤ 9223372036854775807 := h.max
  have HR := hideIt hr
  clear hr
  by_cases hn : n = n'
  · subst hn
    go_enter Tryz.func50, Tryz.ntmps50
    go_wp2
    go_loopw [5] (fun ii wr => ∃ i, i ≤ n ∧ ii = .int .i64 (i : Int) ∧ Hid (l.take i = l'.take i) ∧ ∃ j, Hid (wr = w.drewN j))
      (fun ii _ => n - (intOf ii).toNat)
    case atStart => exact ⟨0, by omega, rfl, hideIt rfl, 0, hideIt rfl⟩
    case round =>
      obtain ⟨i, hi, rfl, HT, j, HW⟩ := hrel
      have hr1 : RK wr A n c l := by rw [HW.out]; exact h.drew_ j
      have hr2 : RK wr A' n c' l' := by rw [HW.out]; exact h'.drew_ j
      by_cases hlt : i < n
      · obtain ⟨ad, x, y, rfl, hx, c1, c2⟩ := hr1.at_ i hlt
        obtain ⟨ad', x', y', rfl, hx', c1', c2'⟩ := hr2.at_ i hlt
        have i1 : (i : Int) < (n : Int) := by omega
        by_cases e1 : x = x'
        · subst e1
          by_cases e2 : y = y'
          · subst e2
            have st := hideIt (take_eq_step HT.out hx hx' rfl)
            clear hx hx'
            go_wp2
            go_quiet (fail)
            go_wp2
            go_roundw
            case rel => exact ⟨i + 1, by omega, by go_num, st, _, hideIt (by rw [HW.out, World.drewN_drewN])⟩
            case measure => simp [intOf]; omega
          · have hf : r = false := by rw [HR.out]; exact decide_eq_false (ne_at hx hx' (fun q => e2 (congrArg Prod.snd q)))
            subst hf
            have b2 : (y == y') = false := beq_eq_false_iff_ne.2 e2
            clear e2 hx hx'
            go_wp2
            go_quiet (fail)
            go_wp2
            go_ret
            exact ⟨rfl, _, by rw [HW.out, World.drewN_drewN]⟩
        · have hf : r = false := by rw [HR.out]; exact decide_eq_false (ne_at hx hx' (fun q => e1 (congrArg Prod.fst q)))
          subst hf
          have b1 : (x == x') = false := beq_eq_false_iff_ne.2 e1
          clear e1 hx hx'
          go_wp2
          go_quiet (fail)
          go_wp2
          go_ret
          exact ⟨rfl, _, by rw [HW.out, World.drewN_drewN]⟩
      · obtain rfl : n = i := by omega
        have ht : r = true := by rw [HR.out]; exact decide_eq_true (take_all_eq HT.out HL.out HL'.out)
        subst ht
        go_wp2
        go_ret
        exact ⟨rfl, _, HW.out⟩
  · have hf : r = false := by
      rw [HR.out]
      refine decide_eq_false (fun q => hn ?_)
      rw [← HL.out, ← HL'.out, q]
    subst hf
    have b : ((n : Int) != (n' : Int)) = true := by rw [bne_iff_ne]; omega
    go_enter Tryz.func50, Tryz.ntmps50
    go_wp2
    go_ret
    exact ⟨rfl, 0, rfl⟩

section
variable {w : World} {ops : Array Oper} {rest : List Oper} {o : Oper} {a : Act} {Q : Exit → Act → World → Prop}
theorem wpM_make (hg : o.guard = none) (l c : Operand) (hop : o.op = Op.makeSlice 25 l c) (kl kc : IntKind) (C : Int) (n : Nat) (hl : a.eval l = .int kl 0) (hc : a.eval c = .int kc C) (hC : C = (n : Int)) (hn : n ≤ 1000000)
    (h : ∀ g w', w.heap.size ≤ g → OC w' 40 1 g 0 n [] → w.grownBy w' none → wpList Tryz.prog ops Q rest (a.put o.dst (.slice (some ⟨g, 0, none⟩) 0 n)) w') : wpList Tryz.prog ops Q (o :: rest) a w := by
  obtain ⟨i0, hi, hz0, hz1, hz2⟩ := info_parts info_bs
  exact wpList_make_own w hg l c 25 hop 0 40 i0 (.slice none 0 0) 1 Tryz.underlying25 hi hz0 hz1 kl kc C n hl hc hC (by rw [hz2]; omega) (by rw [maxLen_is]; omega) (Nat.zero_le _)
    fun w' h1 h2 => h _ w' (Nat.le_refl _) (OC.of_own h1) h2
theorem wpK_make (hg : o.guard = none) (l c : Operand) (hop : o.op = Op.makeSlice 78 l c) (kl kc : IntKind) (C : Int) (n : Nat) (hl : a.eval l = .int kl 0) (hc : a.eval c = .int kc C) (hC : C = (n : Int)) (hn : n ≤ 1000000)
    (h : ∀ g w', w.heap.size ≤ g → OC w' 124 2 g 0 n [] → w.grownBy w' none → wpList Tryz.prog ops Q rest (a.put o.dst (.slice (some ⟨g, 0, none⟩) 0 n)) w') : wpList Tryz.prog ops Q (o :: rest) a w := by
  obtain ⟨i0, hi, hz0, hz1, hz2⟩ := info_parts info_kid
  exact wpList_make_own w hg l c 78 hop 0 124 i0 (.agg #[.int .i64 0, .int .i64 0]) 2 Tryz.underlying78 hi hz0 hz1 kl kc C n hl hc hC (by rw [hz2]; omega) (by rw [maxLen_is]; omega) (Nat.zero_le _)
    fun w' h1 h2 => h _ w' (Nat.le_refl _) (OC.of_own h1) h2
end
end Go.Proofs.YtmeakhiiebeneaaGreatDoor
/- coppiceref: Kids, ByteLists. -/
namespace Go.Proofs.YtmeakhiiebeneaaGreatDoor
open Go.RowKit

set_option maxRecDepth 100000 in
set_option maxHeartbeats 2000000 in
theorem Kids_calls (A : Option Addr) (n c : Nat) (l : List (Int × Int)) (w : World) (h : RK w A n c l) (hn : n ≤ 900000) :
    Calls Tryz.prog 101 #[.slice A n c] w fun e w' => ∃ (A' : Option Addr) (c' : Nat), e = .returned (.slice A' n c') ∧ GK w' w.heap.size A' n c' l ∧ Below w.heap.size w w' := by
  have HL := hideIt h.len
  go_enter Tryz.func101, Tryz.ntmps101
  go_wp2_with (at_make; refine wpK_make rfl _ _ rfl _ _ _ n rfl rfl rfl (by omega) ?_; intro g1 w1 s1 o1 k1)
  have b1 := below_of_grown k1 (Nat.le_refl _) (by simp)
  have G0 : GK w1 w.heap.size (some ⟨g1, 0, none⟩) 0 n (l.take 0) := GC.of o1 s1
  clear k1 o1
  go_loopw [3, 4] (fun bb ii wr => ∃ (i c3 : Nat) (A3 : Option Addr), i ≤ n ∧ bb = .slice A3 i c3 ∧ ii = .int .i64 (i : Int) ∧ GK wr w.heap.size A3 i c3 (l.take i) ∧ Below w.heap.size w wr)
    (fun _ ii _ => n - (intOf ii).toNat)
  case atStart => exact ⟨0, n, _, by omega, rfl, rfl, G0, b1⟩
  case round =>
    clear G0 b1
    obtain ⟨i, c3, A3, hi, rfl, rfl, gk, bw⟩ := hrel
    by_cases hlt : i < n
    · obtain ⟨ad, x, y, rfl, hx, c1, c2⟩ := (h.below bw).at_ i hlt
      have st : l.take (i + 1) = l.take i ++ [(x, y)] := by rw [List.take_add_one, hx]; rfl
      have ST := hideIt st
      have ba := below1 wr (.cells #[.int .i64 x, .int .i64 y] 124)
      have gk1 : GK _ w.heap.size A3 i c3 (l.take i) := GC.below gk ba
      have K1 := RK.one wr x y
      have b2 := blw_step bw ba
      have i1 : (i : Int) < (n : Int) := by omega
      clear st hx
      go_wp2_with (with_reducible refine wpK_app rfl (.tmp 14) (.tmp 19) rfl w.heap.size _ _ _ _ rfl gk1 _ (x, y) rfl K1 (by omega) b2.size ?_; intro g4 c4 w4 q4 gk4 k4)
      have b4 := GC.under gk1 b2 k4 b2.size
      rw [← ST.out] at gk4
      go_roundw
      case rel => exact ⟨i + 1, c4, _, by omega, rfl, by go_num, gk4, b4⟩
      case measure => simp [intOf]; omega
    · obtain rfl : n = i := by omega
      have ht : l.take n = l := List.take_of_length_le (by rw [HL.out]; exact Nat.le_refl _)
      rw [ht] at gk
      clear ht
      go_wp2
      go_ret
      exact ⟨_, _, rfl, gk, bw⟩

set_option maxRecDepth 100000 in
set_option maxHeartbeats 2000000 in
theorem ByteLists_calls (A : Option Addr) (n c : Nat) (vs : List Value) (l : List (List UInt8)) (w : World) (h : RM w A n c vs l) (hf : Few n l) :
    Calls Tryz.prog 85 #[.slice A n c] w fun e w' => ∃ (A' : Option Addr) (c' : Nat) (ps : List (Option Addr × Nat × Nat)), e = .returned (.slice A' n c') ∧ OM w' w.heap.size A' n c' ps l ∧ Below w.heap.size w w' := by
  have HL := hideIt h.len
  have hn := hf.n
  have HS := hideIt hf.s
  go_enter Tryz.func85, Tryz.ntmps85
  go_wp2_with (at_make; refine wpM_make rfl _ _ rfl _ _ _ n rfl rfl rfl (by omega) ?_; intro g1 w1 s1 o1 k1)
  have b1 := below_of_grown k1 (Nat.le_refl _) (by simp)
  have G0 : OM w1 w.heap.size (some ⟨g1, 0, none⟩) 0 n [] (l.take 0) := ⟨GC.of o1 s1, rfl, fun j p xs q => by simp at q, List.Pairwise.nil⟩
  clear k1 o1
  go_loopw [3, 4] (fun bb ii wr => ∃ (i c3 : Nat) (A3 : Option Addr) (ps : List (Option Addr × Nat × Nat)), i ≤ n ∧ bb = .slice A3 i c3 ∧ ii = .int .i64 (i : Int) ∧ OM wr w.heap.size A3 i c3 ps (l.take i) ∧ Below w.heap.size w wr)
    (fun _ ii _ => n - (intOf ii).toNat)
  case atStart => exact ⟨0, n, _, [], by omega, rfl, rfl, G0, b1⟩
  case round =>
    clear G0 b1
    obtain ⟨i, c3, A3, ps, hi, rfl, rfl, om, bw⟩ := hrel
    by_cases hlt : i < n
    · obtain ⟨ad, Ai, ni, ci, s, rfl, hs, cell, rs⟩ := (h.below bw).row i hlt
      have st : l.take (i + 1) = l.take i ++ [s] := by rw [List.take_add_one, hs]; rfl
      have ST := hideIt st
      have nl : ni ≤ 10000 := by rw [← rs.len]; exact HS.out s (List.mem_of_getElem? hs)
      have i1 : (i : Int) < (n : Int) := by omega
      have HLO := hideIt om.lt
      clear st hs
      go_wp2_with (first
        | (with_reducible refine wpM_app rfl (.tmp 20) (.tmp 22) rfl w.heap.size _ _ _ _ rfl om3.row _ (some ⟨g2, 0, none⟩, ni, c2) rfl R3 (by omega) b3.size ?_; intro g5 c5 w5 q5 o5 k5)
        | (go_at_call 22; refine (Bytes_calls _ _ _ _ _ rs (by omega)).mono ?_; rintro en w2 ⟨g2, c2, rfl, s2, o2, x2⟩; have b2 := blw_step bw x2; have ba := below1 w2 (.cells #[.slice (some ⟨g2, 0, none⟩) ni c2] 40); have om3 := (om.below x2).below ba; have S3 := (GB.of o2 s2).below ba; have b3 := blw_step b2 ba; have R3 := sv_cell w2 (some ⟨g2, 0, none⟩, ni, c2)))
      have om5 := om3.push S3 HLO.out bw.size k5 o5 q5
      rw [← ST.out] at om5
      have b5 := GC.under om3.row b3 k5 b3.size
      go_roundw
      case rel => exact ⟨i + 1, c5, _, _, by omega, rfl, by go_num, om5, b5⟩
      case measure => simp [intOf]; omega
    · obtain rfl : n = i := by omega
      have ht : l.take n = l := List.take_of_length_le (by rw [HL.out]; exact Nat.le_refl _)
      rw [ht] at om
      clear ht
      go_wp2
      go_ret
      exact ⟨_, _, _, rfl, om, bw⟩
end Go.Proofs.YtmeakhiiebeneaaGreatDoor
/- coppicelaw5: num, few, lentKids, stayKids. -/
namespace Go.Proofs.YtmeakhiiebeneaaGreatDoor
open Go.RowKit

theorem num_calls (z : Int) (w : World) : Calls Tryz.prog 51 #[.int .i64 z] w fun e w' => e = .returned (.int .i64 z) ∧ w = w' := by
  go_enter Tryz.func51, Tryz.ntmps51
  go_wp2
  go_ret
  exact ⟨rfl, rfl⟩
def fewS (l : List (List UInt8)) (m : Nat) : Bool := decide (l.length ≤ 2000) && (decide (m ≤ 2000) && l.all (fun s => decide (s.length ≤ 4096)))
theorem few_of {l : List (List UInt8)} {m : Nat} (h : fewS l m = true) : l.length ≤ 2000 ∧ m ≤ 2000 ∧ ∀ s ∈ l, s.length ≤ 4096 := by
  unfold fewS at h
  rw [Bool.and_eq_true, Bool.and_eq_true, List.all_eq_true] at h
  exact ⟨of_decide_eq_true h.1, of_decide_eq_true h.2.1, fun s hs => of_decide_eq_true (h.2.2 s hs)⟩
set_option maxRecDepth 100000 in
set_option maxHeartbeats 1000000 in
theorem few_calls (A : Option Addr) (n c : Nat) (vs : List Value) (l : List (List UInt8)) (B : Option Addr) (m d : Nat) (w : World) (h : RM w A n c vs l) :
    Calls Tryz.prog 44 #[.slice A n c, .slice B m d] w fun e w' => e = .returned (.bool (fewS l m)) ∧ w = w' := by
  have HL := hideIt h.len
  by_cases h1 : n ≤ 2000
  · have i1 : decide ((2000 : Int) < (n : Int)) = false := decide_eq_false (by omega)
    by_cases h2 : m ≤ 2000
    · have i2 : decide ((2000 : Int) < (m : Int)) = false := decide_eq_false (by omega)
      obtain ⟨r, hr⟩ : ∃ r, l.all (fun s => decide (s.length ≤ 4096)) = r := ⟨_, rfl⟩
      have e : fewS l m = r := by unfold fewS; rw [HL.out, decide_eq_true h1, decide_eq_true h2, hr]; rfl
      rw [e]
      have H0 : Hid ((l.drop 0).all (fun s => decide (s.length ≤ 4096)) = r) := hideIt hr
      clear e hr
      go_enter Tryz.func44, Tryz.ntmps44
      go_wp2
      go_loopw [5] (fun ii wr => ∃ i, i ≤ n ∧ ii = .int .i64 (i : Int) ∧ Hid ((l.drop i).all (fun s => decide (s.length ≤ 4096)) = r) ∧ w = wr)
        (fun ii _ => n - (intOf ii).toNat)
      case atStart => exact ⟨0, by omega, rfl, H0, by trivial⟩
      case round =>
        clear H0
        obtain ⟨i, hi, rfl, H, rfl⟩ := hrel
        by_cases hlt : i < n
        · obtain ⟨ad, Ai, ni, ci, s, rfl, hs, cell, rs⟩ := h.row i hlt
          have st := all_step (f := fun s : List UInt8 => decide (s.length ≤ 4096)) hs
          rw [H.out, rs.len] at st
          have j1 : (i : Int) < (n : Int) := by omega
          by_cases hn : ni ≤ 4096
          · rw [decide_eq_true hn, Bool.true_and] at st
            have ST := hideIt st.symm
            have j2 : decide ((4096 : Int) < (ni : Int)) = false := decide_eq_false (by omega)
            clear st hs
            go_wp2
            go_roundw
            case rel => exact ⟨i + 1, by omega, by go_num, ST, by trivial⟩
            case measure => simp [intOf]; omega
          · rw [decide_eq_false hn, Bool.false_and] at st
            subst st
            have j2 : decide ((4096 : Int) < (ni : Int)) = true := decide_eq_true (by omega)
            clear hs
            go_wp2
            go_ret
            exact ⟨rfl, rfl⟩
        · obtain rfl : n = i := by omega
          rw [all_end (by rw [HL.out]; exact Nat.le_refl _)] at H
          obtain rfl := H.out
          clear H
          go_wp2
          go_ret
          exact ⟨rfl, rfl⟩
    · have i2 : decide ((2000 : Int) < (m : Int)) = true := decide_eq_true (by omega)
      have e : fewS l m = false := by unfold fewS; rw [decide_eq_false h2, Bool.false_and, Bool.and_false]
      rw [e]
      clear e h2
      go_enter Tryz.func44, Tryz.ntmps44
      go_wp2
      go_ret
      exact ⟨rfl, rfl⟩
  · have i1 : decide ((2000 : Int) < (n : Int)) = true := decide_eq_true (by omega)
    have e : fewS l m = false := by unfold fewS; rw [HL.out, decide_eq_false h1, Bool.false_and]
    rw [e]
    clear e h1
    go_enter Tryz.func44, Tryz.ntmps44
    go_wp2
    go_ret
    exact ⟨rfl, rfl⟩

/-- Kids in new memory, one more behind them. -/
def LK (w : World) (base : Nat) (A : Option Addr) (n c : Nat) (l : List (Int × Int)) : Prop := ∃ g, A = some ⟨g, 0, none⟩ ∧ base ≤ g ∧ OC w 124 2 g (n + 1) c (kidCells (l ++ [(201, 202)]))
theorem LK.below {w w' : World} {base n c : Nat} {A : Option Addr} {l : List (Int × Int)} (h : LK w base A n c l) (b : Below w.heap.size w w') : LK w' base A n c l := by
  obtain ⟨g, e, hb, o⟩ := h
  exact ⟨g, e, hb, o.below b⟩
theorem LK.len {w : World} {base n c : Nat} {A : Option Addr} {l : List (Int × Int)} (h : LK w base A n c l) : l.length = n := by
  obtain ⟨g, e, hb, o⟩ := h
  have := o.1
  rw [kidCells_length, List.length_append] at this
  simp at this
  omega
theorem LK.read {w : World} {base n c : Nat} {A : Option Addr} {l : List (Int × Int)} (h : LK w base A n c l) : RK w A n c l := by
  have hl := h.len
  obtain ⟨g, rfl, hb, o⟩ := h
  have := OC.read (o.take n (by omega))
  rw [kidCells_append, List.take_left' (by rw [kidCells_length, hl])] at this
  exact this
set_option maxRecDepth 100000 in
set_option maxHeartbeats 1000000 in
theorem lentKids_calls (A : Option Addr) (n c : Nat) (l : List (Int × Int)) (w : World) (h : RK w A n c l) (hn : n ≤ 800000) :
    Calls Tryz.prog 47 #[.slice A n c] w fun e w' => ∃ (A' : Option Addr) (c' : Nat), e = .returned (.slice A' n c') ∧ LK w' w.heap.size A' n c' l ∧ Below w.heap.size w w' := by
  go_enter Tryz.func47, Tryz.ntmps47
  go_upto_region 2 with (first
    | (with_reducible refine wpK_app rfl (.tmp 5) (.tmp 7) rfl w.heap.size _ _ _ _ rfl gk2 _ (201, 202) rfl K2 (by omega) b2.size ?_; intro g3 c3 w3 q3 gk3 k3)
    | (go_at_call 101; refine (Kids_calls _ _ _ _ _ h (by omega)).mono ?_; rintro en w1 ⟨A1, c1, rfl, gk1, b1⟩; have ba := below1 w1 (.cells #[.int .i64 201, .int .i64 202] 124); have gk2 : GK _ w.heap.size A1 n c1 l := GC.below gk1 ba; have K2 := RK.one w1 201 202; have b2 := blw_step b1 ba))
  have b3 := GC.under gk2 b2 k3 b2.size
  rcases GC.oc gk3 with ⟨q, _⟩ | ⟨g, q, gb, o⟩
  · cases q
  cases q
  have hc := o.le
  have i1 : (n : Int) ≤ (c3 : Int) := by omega
  clear gk3 gk2 K2 b2 ba gk1 b1 k3
  go_wp2
  go_ret
  exact ⟨_, _, rfl, ⟨_, rfl, gb, o⟩, b3⟩
end Go.Proofs.YtmeakhiiebeneaaGreatDoor
