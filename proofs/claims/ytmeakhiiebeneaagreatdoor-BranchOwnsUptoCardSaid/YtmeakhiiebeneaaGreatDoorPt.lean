/- coppicelaw5.first. -/
import Derived.Test.YtmeakhiiebeneaaGreatDoorPi
import Derived.Test.YtmeakhiiebeneaaGreatDoorPs
import Derived.Lib.SmallJoins
namespace Go.Proofs.YtmeakhiiebeneaaGreatDoor
open Go.RowKit

set_option maxRecDepth 100000 in
theorem wrong1 : wrongS 1 [[109]] [(2, 1), (3, 5)] = 0 := by decide
set_option maxRecDepth 100000 in
theorem size38 : sizeS [[109, 97], [109, 98]] = 38 := by decide
set_option maxRecDepth 100000 in
theorem used1 : usedB 1 [[109]] [(2, 1), (3, 5)] = [2, 1, 2, 0, 1, 109, 16, 0, 2, 0, 0, 0, 1, 0, 0, 0, 0, 3, 0, 0, 0, 5, 0, 0, 0] := by decide
set_option maxRecDepth 100000 in
theorem body1 : (bodyB 1 [[109]] [(2, 1), (3, 5)]).take 27 = [2, 1, 2, 0, 1, 109, 16, 0, 2, 0, 0, 0, 1, 0, 0, 0, 0, 3, 0, 0, 0, 5, 0, 0, 0, 0, 0] := by
  unfold bodyB
  rw [used1, show sizeS [[109]] = 25 by decide, show 4092 - 25 = 4065 + 1 + 1 from rfl, List.replicate_succ, List.replicate_succ]
  rfl
set_option maxRecDepth 100000 in
theorem body_head (v : Int) (l : List (List UInt8)) (ks : List (Int × Int)) : (bodyB v l ks).head? = some 2 := by
  unfold bodyB usedB frontB headB
  rfl
set_option maxRecDepth 100000 in
theorem zeros_no : okDec (zeros 4092) = false := by
  cases h : okDec (zeros 4092) with
  | false => rfl
  | true =>
    have h1 := (dec_body h).2
    have h2 := body_head (levD (zeros 4092)) (restS (zeros 4092)).1 (kidsD (zeros 4092))
    rw [h1] at h2
    unfold zeros at h2
    rw [show 4092 = 4091 + 1 from rfl, List.replicate_succ, List.head?_cons] at h2
    exact absurd h2 (by decide)
set_option maxRecDepth 100000 in
theorem RM.one {w : World} {A : Option Addr} {n c : Nat} {s : List UInt8} {R : Addr} (hr : RC w 1 (some R) 1 1 [.slice A n c]) (h : RB w A n c s) : RM w (some R) 1 1 [.slice A n c] [s] :=
  ⟨hr, rfl, fun j xs hj => by
    cases j with
    | zero => simp at hj; subst hj; exact ⟨A, n, c, rfl, h⟩
    | succ j => simp at hj⟩
set_option maxRecDepth 100000 in
theorem RM.two {w : World} {A A' : Option Addr} {n c n' c' : Nat} {s s' : List UInt8} {R : Addr} (hr : RC w 1 (some R) 2 2 [.slice A n c, .slice A' n' c']) (h : RB w A n c s) (h' : RB w A' n' c' s') : RM w (some R) 2 2 [.slice A n c, .slice A' n' c'] [s, s'] :=
  ⟨hr, rfl, fun j xs hj => by
    match j with
    | 0 => simp at hj; subst hj; exact ⟨A, n, c, rfl, h⟩
    | 1 => simp at hj; subst hj; exact ⟨A', n', c', rfl, h'⟩
    | j + 2 => simp at hj⟩

set_option maxRecDepth 100000 in
theorem RK.at_world {w w' : World} {A : Option Addr} {n c : Nat} {l : List (Int × Int)} (h : RK w A n c l) (e : w' = w) : RK w' A n c l := e ▸ h
set_option maxRecDepth 100000 in
theorem below_at {B : Nat} {a w w' : World} (h : Below B a w) (e : w' = w) : Below B a w' := e ▸ h
set_option maxRecDepth 100000 in
theorem DecodeOut.yes {w w' : World} {b : List UInt8} {en : Ending} {v : Int} {l : List (List UInt8)} {ks : List (Int × Int)} (q : DecodeOut w b en w') (h : IsBody b v l ks) : ∃ (A1 : Option Addr) (n1 c1 : Nat) (ps : List (Option Addr × Nat × Nat)) (A2 : Option Addr) (n2 c2 : Nat),
    en = .returned (.tuple #[.int .i64 v, .slice A1 n1 c1, .slice A2 n2 c2, .int .i64 0]) ∧ OM w' w.heap.size A1 n1 c1 ps l ∧ GK w' w.heap.size A2 n2 c2 ks ∧ Below w.heap.size w w' := by
  obtain ⟨h0, h1, h2, h3⟩ := body_dec h
  unfold DecodeOut at q
  rw [h0, h1, h2, h3] at q
  exact q
set_option maxRecDepth 100000 in
theorem DecodeOut.not {w w' : World} {b : List UInt8} {en : Ending} (q : DecodeOut w b en w') (h : okDec b = false) : ∃ (A1 : Option Addr) (n1 c1 : Nat) (ps : List (Option Addr × Nat × Nat)) (A2 : Option Addr) (n2 c2 : Nat),
    en = .returned (.tuple #[.int .i64 0, .slice A1 n1 c1, .slice A2 n2 c2, .int .i64 50]) ∧ OM w' w.heap.size A1 n1 c1 ps [] ∧ GK w' w.heap.size A2 n2 c2 [] ∧ Below w.heap.size w w' := by
  unfold DecodeOut at q
  rw [h] at q
  exact q
set_option maxRecDepth 100000 in
set_option maxHeartbeats 4000000 in
theorem first_calls (w : World) :
    Calls Tryz.prog 43 #[] w fun e w' => e = .returned (.bool true) ∧ Below w.heap.size w w' := by
  have k0 : RK (w.alloc (.cells #[.int .i64 2, .int .i64 1, .int .i64 3, .int .i64 5] 124)) (some ⟨w.heap.size, 0, none⟩) 2 2 [(2, 1), (3, 5)] :=
    OC.read (e := 124) (OC.mk rfl _ (heap_alloc_new w _) (Nat.le_refl _) (by rw [maxLen_is]; omega) rfl rfl)
  have b0 := below1 w (.cells #[.int .i64 2, .int .i64 1, .int .i64 3, .int .i64 5] 124)
  go_enter Tryz.func43, Tryz.ntmps43
  go_upto_region 2 with fail
  generalize hw0 : w.alloc (.cells #[.int .i64 2, .int .i64 1, .int .i64 3, .int .i64 5] 124) = w0 at k0 b0 ⊢
  clear hw0
  have kc := fun (w : World) (C : Array Value) (n c g : Nat) (hg : g = w.heap.size) => Joins.run_convert_bytes_const_at (P := Tryz.prog) w 40 5 C n c g hg Tryz.underlying40 Tryz.underlying5
  have s1 : RB (w0.alloc (.cells #[.int .u8 109] 5 (1, 2))) (some ⟨w0.heap.size, 0, none⟩) 1 1 [109] := lit_read w0 [109] 1 (1, 2) 5 rfl (by decide)
  have ba := below1 w0 (.cells #[.int .u8 109] 5 (1, 2))
  have r1 := sv_cell (w0.alloc (.cells #[.int .u8 109] 5 (1, 2))) (some ⟨w0.heap.size, 0, none⟩, 1, 1)
  have ba2 := below1 (w0.alloc (.cells #[.int .u8 109] 5 (1, 2))) (.cells #[.slice (some ⟨w0.heap.size, 0, none⟩) 1 1] 40)
  rw [show (w0.alloc (.cells #[.int .u8 109] 5 (1, 2))).heap.size = w0.heap.size + 1 by simp] at r1
  have m1 := RM.one r1 (s1.below ba2)
  have k1 := (k0.below ba).below ba2
  have b1 := blw_step (blw_step b0 ba) ba2
  clear s1 ba r1 ba2 k0 b0
  go_upto_region 3 with (go_at_call 48; refine (Encode_ok 1 _ _ _ _ _ _ _ _ _ _ m1 k1 wrong1).mono ?_; rintro en w2 ⟨g2, rfl, s2, o2, x2⟩)
  have k2 := k1.below x2
  have b2 := blw_step b1 x2
  clear m1 k1 b1 x2 s2
  have l3 : RB (w2.alloc (.cells #[.int .u8 2, .int .u8 1, .int .u8 2, .int .u8 0, .int .u8 1, .int .u8 109, .int .u8 16, .int .u8 0, .int .u8 2, .int .u8 0, .int .u8 0, .int .u8 0, .int .u8 1, .int .u8 0, .int .u8 0, .int .u8 0, .int .u8 0, .int .u8 3, .int .u8 0, .int .u8 0, .int .u8 0, .int .u8 5, .int .u8 0, .int .u8 0, .int .u8 0, .int .u8 0, .int .u8 0] 5)) (some ⟨w2.heap.size, 0, none⟩) 27 27 [2, 1, 2, 0, 1, 109, 16, 0, 2, 0, 0, 0, 1, 0, 0, 0, 0, 3, 0, 0, 0, 5, 0, 0, 0, 0, 0] := lit_read w2 [2, 1, 2, 0, 1, 109, 16, 0, 2, 0, 0, 0, 1, 0, 0, 0, 0, 3, 0, 0, 0, 5, 0, 0, 0, 0, 0] 27 (0, 0) 5 rfl (by decide)
  have ba3 := below1 w2 (.cells #[.int .u8 2, .int .u8 1, .int .u8 2, .int .u8 0, .int .u8 1, .int .u8 109, .int .u8 16, .int .u8 0, .int .u8 2, .int .u8 0, .int .u8 0, .int .u8 0, .int .u8 1, .int .u8 0, .int .u8 0, .int .u8 0, .int .u8 0, .int .u8 3, .int .u8 0, .int .u8 0, .int .u8 0, .int .u8 5, .int .u8 0, .int .u8 0, .int .u8 0, .int .u8 0, .int .u8 0] 5)
  go_upto_region 4 with fail
  generalize hw3 : w2.alloc (.cells #[.int .u8 2, .int .u8 1, .int .u8 2, .int .u8 0, .int .u8 1, .int .u8 109, .int .u8 16, .int .u8 0, .int .u8 2, .int .u8 0, .int .u8 0, .int .u8 0, .int .u8 1, .int .u8 0, .int .u8 0, .int .u8 0, .int .u8 0, .int .u8 3, .int .u8 0, .int .u8 0, .int .u8 0, .int .u8 5, .int .u8 0, .int .u8 0, .int .u8 0, .int .u8 0, .int .u8 0] 5) = w3 at l3 ba3 ⊢
  have k3 := k2.below ba3
  have o3 := o2.below ba3
  have b3 := blw_step b2 ba3
  generalize w2.heap.size = g3 at l3 ⊢
  clear hw3 ba3 k2 o2 b2
  have sa : RB (w3.alloc (.cells #[.int .u8 109, .int .u8 97] 5 (2, 3))) (some ⟨w3.heap.size, 0, none⟩) 2 2 [109, 97] := lit_read w3 [109, 97] 2 (2, 3) 5 rfl (by decide)
  have xa := below1 w3 (.cells #[.int .u8 109, .int .u8 97] 5 (2, 3))
  have za : (w3.alloc (.cells #[.int .u8 109, .int .u8 97] 5 (2, 3))).heap.size = w3.heap.size + 1 := by simp
  generalize hwa : w3.alloc (.cells #[.int .u8 109, .int .u8 97] 5 (2, 3)) = wa at sa xa za
  have sb : RB (wa.alloc (.cells #[.int .u8 109, .int .u8 98] 5 (2, 3))) (some ⟨wa.heap.size, 0, none⟩) 2 2 [109, 98] := lit_read wa [109, 98] 2 (2, 3) 5 rfl (by decide)
  have xb := below1 wa (.cells #[.int .u8 109, .int .u8 98] 5 (2, 3))
  have zb : (wa.alloc (.cells #[.int .u8 109, .int .u8 98] 5 (2, 3))).heap.size = w3.heap.size + 2 := by simp [za]
  rw [za] at sb
  generalize hwb : wa.alloc (.cells #[.int .u8 109, .int .u8 98] 5 (2, 3)) = wb at sb xb zb
  have rr : RC (wb.alloc (.cells #[.slice (some ⟨w3.heap.size, 0, none⟩) 2 2, .slice (some ⟨w3.heap.size + 1, 0, none⟩) 2 2] 40)) 1 (some ⟨wb.heap.size, 0, none⟩) 2 2 [.slice (some ⟨w3.heap.size, 0, none⟩) 2 2, .slice (some ⟨w3.heap.size + 1, 0, none⟩) 2 2] :=
    OC.read (e := 40) (OC.mk rfl _ (heap_alloc_new wb _) (Nat.le_refl _) (by rw [maxLen_is]; omega) rfl rfl)
  have xr := below1 wb (.cells #[.slice (some ⟨w3.heap.size, 0, none⟩) 2 2, .slice (some ⟨w3.heap.size + 1, 0, none⟩) 2 2] 40)
  rw [zb] at rr
  have mm := RM.two rr ((sa.below xb).below xr) (sb.below xr)
  have xall := (xa.trans (xb.mono xa.size)).trans (xr.mono (Nat.le_trans xa.size xb.size))
  have SZ := Size_calls _ 2 2 _ _ _ mm ⟨by omega, fun x hx => by simp at hx; rcases hx with rfl | rfl <;> decide⟩
  rw [size38] at SZ
  subst hwb hwa
  clear sa xa za sb xb zb rr xr mm
  go_upto_region 6 with (first
    | (go_at_call 96; refine SZ.mono ?_; rintro en w4 ⟨rfl, x4⟩)
    | (go_at_call 51; refine (num_calls _ _).mono ?_; rintro en wx ⟨rfl, rfl⟩))
  have b4 := (b3.trans (xall.mono b3.size)).trans (x4.mono (Nat.le_trans b3.size xall.size))
  have k4 := (k3.below xall).below x4
  have o4 := (o3.below xall).below x4
  have l4 := (l3.below xall).below x4
  clear SZ b3 k3 o3 l3 x4 xall
  go_upto_region 7 with (go_at_call 12; refine (SameBytes_calls _ _ _ _ _ _ _ _ _ (o4.read.take 27 (by omega)) l4 true (decide_eq_true body1).symm).mono ?_; rintro en wx ⟨rfl, rfl⟩)
  clear l4
  go_upto_region 8 with (go_at_call 49; refine (Decode_calls _ _ _ _ _ o4.read).mono ?_; intro en w5 qd; obtain ⟨A1, n1, c1, ps, A2, n2, c2, rfl, om, gk, x5⟩ := qd.yes ⟨wrong1, rfl⟩)
  have b5 := blw_step b4 x5
  have k5 := k4.below x5
  clear b4 k4 o4 x5 qd
  have s8 : RB (w5.alloc (.cells #[.int .u8 109] 5 (1, 2))) (some ⟨w5.heap.size, 0, none⟩) 1 1 [109] := lit_read w5 [109] 1 (1, 2) 5 rfl (by decide)
  have ba := below1 w5 (.cells #[.int .u8 109] 5 (1, 2))
  have r8 := sv_cell (w5.alloc (.cells #[.int .u8 109] 5 (1, 2))) (some ⟨w5.heap.size, 0, none⟩, 1, 1)
  have ba2 := below1 (w5.alloc (.cells #[.int .u8 109] 5 (1, 2))) (.cells #[.slice (some ⟨w5.heap.size, 0, none⟩) 1 1] 40)
  rw [show (w5.alloc (.cells #[.int .u8 109] 5 (1, 2))).heap.size = w5.heap.size + 1 by simp] at r8
  have m8 := RM.one r8 (s8.below ba2)
  have om8 := ((om.below ba).below ba2).read
  have gk8 := GK.read ((GC.below (GC.below gk ba) ba2))
  have k8 := (k5.below ba).below ba2
  have b8 := blw_step (blw_step b5 ba) ba2
  clear s8 ba r8 ba2 om gk k5 b5
  go_upto_region 9 with (first
    | (go_at_call 50; refine (SameKids_calls _ _ _ _ _ _ _ _ _ gk9 k9 true (by simp)).mono ?_; rintro en w7 ⟨rfl, j7, h7⟩; have b9 := below_at (below_drewN b6 j7) h7; clear h7)
    | (go_at_call 32; refine (SameByteLists_calls _ _ _ _ _ _ _ _ _ _ _ om8 m8 true (by simp)).mono ?_; rintro en w6 ⟨rfl, j6, h6⟩; have gk9 := RK.at_world (gk8.drew_ j6) h6; have k9 := RK.at_world (k8.drew_ j6) h6; have b6 := below_at (below_drewN b8 j6) h6; clear h6))
  clear om8 gk8 k8 b8 m8 gk9 k9 b6
  go_upto_region 10 with (first
    | (at_make; refine wpB_full rfl _ _ rfl _ _ _ _ 4092 rfl rfl rfl rfl (by omega) ?_; intro g8 w8 s8 o8 k8; have b10 := b9.trans (below_of_grown k8 b9.size (by simp)))
    | (go_at_call 49; refine (Decode_calls _ _ _ _ _ o8.read).mono ?_; intro en w9 qd; obtain ⟨A3, n3, c3, ps3, A4, n4, c4, rfl, om9, gk9, x9⟩ := qd.not zeros_no; have b11 := blw_step b10 x9))
  clear om9 gk9 qd o8 k8 b10 x9
  go_wp2_with (go_at_call 51; refine (num_calls _ _).mono ?_; rintro en wx ⟨rfl, rfl⟩)
  go_ret
  exact ⟨rfl, b11⟩
end Go.Proofs.YtmeakhiiebeneaaGreatDoor
/- coppicelaw5.BranchKinds. -/
namespace Go.Proofs.YtmeakhiiebeneaaGreatDoor
open Go.RowKit

set_option maxRecDepth 100000 in
theorem dec_len {b : List UInt8} (h : b.length ≠ 4092) : okDec b = false := decide_eq_false (fun q => h q.1)
set_option maxRecDepth 100000 in
theorem dec_kind {b : List UInt8} (h : b.head? ≠ some 2) : okDec b = false := by
  cases e : okDec b with
  | false => rfl
  | true =>
    have h1 := (dec_body e).2
    have h2 := body_head (levD b) (restS b).1 (kidsD b)
    rw [h1] at h2
    exact absurd h2 h
set_option maxRecDepth 100000 in
theorem few_few {l : List (List UInt8)} {m n : Nat} (h : fewS l m = true) (hl : l.length = n) : Few n l := by
  obtain ⟨h1, _, h3⟩ := few_of h
  exact ⟨by omega, fun x hx => by have := h3 x hx; omega⟩

end Go.Proofs.YtmeakhiiebeneaaGreatDoor
