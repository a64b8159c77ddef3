/- coppicekept.Book, lists of ints: intsMark, intsShow; coppiceref.Ints. -/
import Derived.Test.YtmeakhiiebeneaaGreatDoorJp
import Derived.Test.YtmeakhiiebeneaaGreatDoorM1
import Derived.Deep.QuietTactic
import Derived.BigQuiet
import Derived.BigRegion
import Derived.WalkLawsBesides
namespace Go.Proofs.YtmeakhiiebeneaaGreatDoor
open Go.RowKit

def mkN (p : Int) (id j : Nat) : List Value := [.int .i64 ((id : Int) * 1000 + 2 * (j : Int) + p)]
set_option maxRecDepth 100000 in
set_option maxHeartbeats 1000000 in
theorem intsMark_calls (gk : Nat) (p z : Int) (id j : Nat) (w : World) (hp : w.cell? ⟨gk, 1, none⟩ = some (.int .i64 p)) (hz : z = (id : Int)) (p0 : 0 ≤ p) (p1 : p ≤ 1) (h1 : id ≤ 10000000) (h2 : j ≤ 10000000) :
    Calls Tryz.prog 194 #[.pointer (some ⟨gk, 0, none⟩), .int .i64 z, .int .i64 (j : Int)] w fun e w' => e = .returned (.int .i64 ((id : Int) * 1000 + 2 * (j : Int) + p)) ∧ w = w' := by
  subst hz
  have w1 : IntKind.i64.wrap ((id : Int) * 1000) = (id : Int) * 1000 := by rw [IntKind.wrap_i64]; omega
  have w2 : IntKind.i64.wrap (2 * (j : Int)) = 2 * (j : Int) := by rw [IntKind.wrap_i64]; omega
  have w3 : IntKind.i64.wrap ((id : Int) * 1000 + 2 * (j : Int)) = (id : Int) * 1000 + 2 * (j : Int) := by rw [IntKind.wrap_i64]; omega
  have w4 : IntKind.i64.wrap ((id : Int) * 1000 + 2 * (j : Int) + p) = (id : Int) * 1000 + 2 * (j : Int) + p := by rw [IntKind.wrap_i64]; omega
  go_enter Tryz.func194, Tryz.ntmps194
  go_wp2
  go_ret
  exact ⟨rfl, rfl⟩
set_option maxRecDepth 100000 in
set_option maxHeartbeats 1000000 in
theorem intsShow_calls (gk : Nat) (p z : Int) (id : Nat) (A : Option Addr) (n c : Nat) (w : World) (hp : w.cell? ⟨gk, 1, none⟩ = some (.int .i64 p)) (hz : z = (id : Int)) (p0 : 0 ≤ p) (p1 : p ≤ 1) (h : RC w 1 A n c (runs (mkN p id) n)) (h1 : id ≤ 10000000) (h2 : n ≤ 10000000) :
    Calls Tryz.prog 207 #[.pointer (some ⟨gk, 0, none⟩), .slice A n c, .int .i64 z] w fun e w' => e = .returned (.bool true) ∧ Below w.heap.size w w' := by
  subst hz
  go_enter Tryz.func207, Tryz.ntmps207
  go_wp2
  go_loop [7] (fun jj => ∃ j : Nat, j ≤ n ∧ jj = .int .i64 (j : Int)) (fun jj => n - (intOf jj).toNat)
  case atStart => exact ⟨0, by omega, rfl⟩
  case round =>
    obtain ⟨j, hj, rfl⟩ := hrel
    by_cases hlt : j < n
    · obtain ⟨ad, u, rfl, hu, cell⟩ := h.at_ j hlt
      have hu2 := runs_get (mkN p id) 1 (fun _ => rfl) n j 0 hlt (by decide)
      rw [Nat.mul_one, Nat.add_zero, hu] at hu2
      cases hu2
      have MK := intsMark_calls gk p (id : Int) id j w hp rfl p0 p1 h1 (by omega)
      generalize (id : Int) * 1000 + 2 * (j : Int) + p = v at cell MK
      have i1 : (j : Int) < (n : Int) := by omega
      clear hu
      go_wp2_with (go_at_call 194; refine MK.mono ?_; rintro en wx ⟨rfl, rfl⟩)
      go_round
      case rel => exact ⟨j + 1, by omega, by go_num⟩
      case measure => simp [intOf]; omega
    · obtain rfl : n = j := by omega
      go_wp2
      go_ret
      exact ⟨rfl, Below.refl _ _⟩
section
variable {w : World} {ops : Array Oper} {rest : List Oper} {o : Oper} {a : Act} {Q : Exit → Act → World → Prop}
theorem wpI_make (hg : o.guard = none) (l c : Operand) (hop : o.op = Op.makeSlice 63 l c) (kl kc : IntKind) (C : Int) (n : Nat) (hl : a.eval l = .int kl 0) (hc : a.eval c = .int kc C) (hC : C = (n : Int)) (hn : n ≤ 1000000)
    (h : ∀ g w', w.heap.size ≤ g → OC w' 3 1 g 0 n [] → w.grownBy w' none → wpList Tryz.prog ops Q rest (a.put o.dst (.slice (some ⟨g, 0, none⟩) 0 n)) w') : wpList Tryz.prog ops Q (o :: rest) a w := by
  obtain ⟨i0, hi, hz0, hz1, hz2⟩ := info_parts info_int
  exact wpList_make_own w hg l c 63 hop 0 3 i0 _ 1 Tryz.underlying63 hi hz0 hz1 kl kc C n hl hc hC (by rw [hz2]; omega) (by rw [maxLen_is]; omega) (Nat.zero_le _)
    fun w' h1 h2 => h _ w' (Nat.le_refl _) (OC.of_own h1) h2
end
abbrev GI (w : World) (b : Nat) (A : Option Addr) (n c : Nat) (l : List Int) : Prop := GC w b 3 1 A n c (i64s l)
set_option maxRecDepth 100000 in
set_option maxHeartbeats 2000000 in
theorem Ints_calls (A : Option Addr) (n c : Nat) (l : List Int) (w : World) (h : RI w A n c l) (hn : n ≤ 900000) :
    Calls Tryz.prog 30 #[.slice A n c] w fun e w' => ∃ (g c' : Nat), e = .returned (.slice (some ⟨g, 0, none⟩) n c') ∧ w.heap.size ≤ g ∧ OI w' g n c' l ∧ Below w.heap.size w w' := by
  have HL := hideIt h.len
  go_enter Tryz.func30, Tryz.ntmps30
  go_wp2_with (at_make; refine wpI_make rfl _ _ rfl _ _ _ n rfl rfl rfl (by omega) ?_; intro g1 w1 s1 o1 k1)
  have b1 := below_of_grown k1 (Nat.le_refl _) (by simp)
  have G0 : OI w1 g1 0 n (l.take 0) := o1
  clear k1 o1
  go_loopw [3, 4] (fun bb ii wr => ∃ (i c3 g3 : Nat), i ≤ n ∧ bb = .slice (some ⟨g3, 0, none⟩) i c3 ∧ ii = .int .i64 (i : Int) ∧ w.heap.size ≤ g3 ∧ OI wr g3 i c3 (l.take i) ∧ Below w.heap.size w wr)
    (fun _ ii _ => n - (intOf ii).toNat)
  case atStart => exact ⟨0, n, _, by omega, rfl, rfl, s1, G0, b1⟩
  case round =>
    clear G0 b1
    obtain ⟨i, c3, g3, hi, rfl, rfl, s3, gk, bw⟩ := hrel
    by_cases hlt : i < n
    · obtain ⟨ad, rfl, c1⟩ := (h.below bw).at_ i (by rw [HL.out]; exact hlt)
      have st : l.take (i + 1) = l.take i ++ [l[i]'(by rw [HL.out]; exact hlt)] := by rw [List.take_add_one, List.getElem?_eq_getElem (by rw [HL.out]; exact hlt)]; rfl
      have ST := hideIt st
      clear st
      generalize l[i]'(by rw [HL.out]; exact hlt) = x at c1 ST
      have ba := below1 wr (.cells #[.int .i64 x] 3)
      have gk1 : GI _ w.heap.size (some ⟨g3, 0, none⟩) i c3 (l.take i) := GC.below (GC.of gk s3) ba
      have K1 := RI.one wr x
      have b2 := blw_step bw ba
      have i1 : (i : Int) < (n : Int) := by omega
      go_wp2_with (with_reducible refine wpI_app rfl (.tmp 14) (.tmp 19) rfl w.heap.size _ _ _ _ rfl gk1 _ 1 1 [x] rfl K1 (by decide) (by omega) b2.size ?_; intro g4 c4 w4 q4 gk4 k4)
      have b4 := GC.under gk1 b2 k4 b2.size
      rw [← ST.out] at gk4
      go_roundw
      case rel => exact ⟨i + 1, c4, _, by omega, rfl, by go_num, q4, gk4, b4⟩
      case measure => simp [intOf]; omega
    · obtain rfl : n = i := by omega
      have ht : l.take n = l := List.take_of_length_le (by rw [HL.out]; exact Nat.le_refl _)
      rw [ht] at gk
      clear ht
      go_wp2
      go_ret
      exact ⟨_, _, rfl, s3, gk, bw⟩
end Go.Proofs.YtmeakhiiebeneaaGreatDoor
