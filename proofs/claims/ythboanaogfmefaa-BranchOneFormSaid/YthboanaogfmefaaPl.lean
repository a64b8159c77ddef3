/- coppiceref: Kids, ByteLists. -/
import Derived.Test.YthboanaogfmefaaPk
namespace Go.Proofs.Ythboanaogfmefaa
open Go.RowKit

set_option maxRecDepth 100000 in
set_option maxHeartbeats 2000000 in
theorem Kids_calls (A : Option Addr) (n c : Nat) (l : List (Int × Int)) (w : World) (h : RK w A n c l) (hn : n ≤ 900000) :
    Calls Try.prog 22 #[.slice A n c] w fun e w' => ∃ (A' : Option Addr) (c' : Nat), e = .returned (.slice A' n c') ∧ GK w' w.heap.size A' n c' l ∧ Below w.heap.size w w' := by
  have HL := hideIt h.len
  go_enter Try.func22, Try.ntmps22
  go_wp2_with (at_make; refine wpK_make rfl _ _ rfl _ _ _ n rfl rfl rfl (by omega) ?_; intro g1 w1 s1 o1 k1)
  have b1 := below_of_grown k1 (Nat.le_refl _) (by simp)
  have G0 : GK w1 w.heap.size (some ⟨g1, 0, none⟩) 0 n (l.take 0) := GC.of o1 s1
  clear k1 o1
  go_loopw [3, 4] (fun bb ii wr => ∃ (i c3 : Nat) (A3 : Option Addr), i ≤ n ∧ bb = .slice A3 i c3 ∧ ii = .int .i64 (i : Int) ∧ GK wr w.heap.size A3 i c3 (l.take i) ∧ Below w.heap.size w wr)
    (fun _ ii _ => n - (intOf ii).toNat)
  case atStart => exact ⟨0, n, _, by omega, rfl, rfl, G0, b1⟩
  case round =>
    clear G0 b1
    obtain ⟨i, c3, A3, hi, rfl, rfl, gk, bw⟩ := hrel
    by_cases hlt : i < n
    · obtain ⟨ad, x, y, rfl, hx, c1, c2⟩ := (h.below bw).at_ i hlt
      have st : l.take (i + 1) = l.take i ++ [(x, y)] := by rw [List.take_add_one, hx]; rfl
      have ST := hideIt st
      have ba := below1 wr (.cells #[.int .i64 x, .int .i64 y] 37)
      have gk1 : GK _ w.heap.size A3 i c3 (l.take i) := GC.below gk ba
      have K1 := RK.one wr x y
      have b2 := blw_step bw ba
      have i1 : (i : Int) < (n : Int) := by omega
      clear st hx
      go_wp2_with (with_reducible refine wpK_app rfl (.tmp 14) (.tmp 19) rfl w.heap.size _ _ _ _ rfl gk1 _ (x, y) rfl K1 (by omega) b2.size ?_; intro g4 c4 w4 q4 gk4 k4)
      have b4 := GC.under gk1 b2 k4 b2.size
      rw [← ST.out] at gk4
      go_roundw
      case rel => exact ⟨i + 1, c4, _, by omega, rfl, by go_num, gk4, b4⟩
      case measure => simp [intOf]; omega
    · obtain rfl : n = i := by omega
      have ht : l.take n = l := List.take_of_length_le (by rw [HL.out]; exact Nat.le_refl _)
      rw [ht] at gk
      clear ht
      go_wp2
      go_ret
      exact ⟨_, _, rfl, gk, bw⟩

set_option maxRecDepth 100000 in
set_option maxHeartbeats 2000000 in
theorem ByteLists_calls (A : Option Addr) (n c : Nat) (vs : List Value) (l : List (List UInt8)) (w : World) (h : RM w A n c vs l) (hf : Few n l) :
    Calls Try.prog 18 #[.slice A n c] w fun e w' => ∃ (A' : Option Addr) (c' : Nat) (ps : List (Option Addr × Nat × Nat)), e = .returned (.slice A' n c') ∧ OM w' w.heap.size A' n c' ps l ∧ Below w.heap.size w w' := by
  have HL := hideIt h.len
  have hn := hf.n
  have HS := hideIt hf.s
  go_enter Try.func18, Try.ntmps18
  go_wp2_with (at_make; refine wpM_make rfl _ _ rfl _ _ _ n rfl rfl rfl (by omega) ?_; intro g1 w1 s1 o1 k1)
  have b1 := below_of_grown k1 (Nat.le_refl _) (by simp)
  have G0 : OM w1 w.heap.size (some ⟨g1, 0, none⟩) 0 n [] (l.take 0) := ⟨GC.of o1 s1, rfl, fun j p xs q => by simp at q, List.Pairwise.nil⟩
  clear k1 o1
  go_loopw [3, 4] (fun bb ii wr => ∃ (i c3 : Nat) (A3 : Option Addr) (ps : List (Option Addr × Nat × Nat)), i ≤ n ∧ bb = .slice A3 i c3 ∧ ii = .int .i64 (i : Int) ∧ OM wr w.heap.size A3 i c3 ps (l.take i) ∧ Below w.heap.size w wr)
    (fun _ ii _ => n - (intOf ii).toNat)
  case atStart => exact ⟨0, n, _, [], by omega, rfl, rfl, G0, b1⟩
  case round =>
    clear G0 b1
    obtain ⟨i, c3, A3, ps, hi, rfl, rfl, om, bw⟩ := hrel
    by_cases hlt : i < n
    · obtain ⟨ad, Ai, ni, ci, s, rfl, hs, cell, rs⟩ := (h.below bw).row i hlt
      have st : l.take (i + 1) = l.take i ++ [s] := by rw [List.take_add_one, hs]; rfl
      have ST := hideIt st
      have nl : ni ≤ 10000 := by rw [← rs.len]; exact HS.out s (List.mem_of_getElem? hs)
      have i1 : (i : Int) < (n : Int) := by omega
      have HLO := hideIt om.lt
      clear st hs
      go_wp2_with (first
        | (with_reducible refine wpM_app rfl (.tmp 20) (.tmp 22) rfl w.heap.size _ _ _ _ rfl om3.row _ (some ⟨g2, 0, none⟩, ni, c2) rfl R3 (by omega) b3.size ?_; intro g5 c5 w5 q5 o5 k5)
        | (go_at_call 33; refine (Bytes_calls _ _ _ _ _ rs (by omega)).mono ?_; rintro en w2 ⟨g2, c2, rfl, s2, o2, x2⟩; have b2 := blw_step bw x2; have ba := below1 w2 (.cells #[.slice (some ⟨g2, 0, none⟩) ni c2] 28); have om3 := (om.below x2).below ba; have S3 := (GB.of o2 s2).below ba; have b3 := blw_step b2 ba; have R3 := sv_cell w2 (some ⟨g2, 0, none⟩, ni, c2)))
      have om5 := om3.push S3 HLO.out bw.size k5 o5 q5
      rw [← ST.out] at om5
      have b5 := GC.under om3.row b3 k5 b3.size
      go_roundw
      case rel => exact ⟨i + 1, c5, _, _, by omega, rfl, by go_num, om5, b5⟩
      case measure => simp [intOf]; omega
    · obtain rfl : n = i := by omega
      have ht : l.take n = l := List.take_of_length_le (by rw [HL.out]; exact Nat.le_refl _)
      rw [ht] at om
      clear ht
      go_wp2
      go_ret
      exact ⟨_, _, _, rfl, om, bw⟩
end Go.Proofs.Ythboanaogfmefaa
