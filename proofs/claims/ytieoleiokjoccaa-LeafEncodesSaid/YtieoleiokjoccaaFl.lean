/- coppiceref4: cell, Encode. -/
import Derived.Test.YtieoleiokjoccaaFk
import Derived.Test.YtieoleiokjoccaaFf
import Derived.Test.YtieoleiokjoccaaWq
namespace Go.Proofs.Ytieoleiokjoccaa
open Go.RowKit

theorem refPutVT (l : Nat) (A : Option Addr) (n c : Nat) (xs : List UInt8) (x : Nat) (w : World) (hx : RB w A n c xs) (hl : n + vl x = l) (hb : n ≤ 1000000) (hxx : x ≤ 1000000) :
    Calls Try.prog 61 #[.slice A n c, .int .u64 (x : Int)] w fun e w' => ∃ g c', e = .returned (.slice (some ⟨g, 0, none⟩) l c') ∧ w.heap.size ≤ g ∧ OB w' g l c' (xs ++ vF 9 x) ∧ Below w.heap.size w w' := by
  have hn := hx.len
  refine (refPutV_calls A n c xs x w hx (by omega) (by omega)).mono ?_
  rintro e w' ⟨g, m, c', rfl, s, o, b⟩
  have := o.len
  rw [List.length_append, hn] at this
  obtain rfl : l = m := by rw [← hl, ← this]; rfl
  exact ⟨g, c', rfl, s, o, b⟩
theorem refPut4T (A : Option Addr) (n c : Nat) (xs : List UInt8) (x : Nat) (w : World) (hx : RB w A n c xs) (hb : n ≤ 1000000) (hxx : x < 4294967296) :
    Calls Try.prog 60 #[.slice A n c, .int .u64 (x : Int), .int .i64 4] w fun e w' => ∃ g c', e = .returned (.slice (some ⟨g, 0, none⟩) (n + 4) c') ∧ w.heap.size ≤ g ∧ OB w' g (n + 4) c' (xs ++ leB x 4) ∧ Below w.heap.size w w' :=
  refPut_calls A n c xs x 4 w hx (by omega) (by omega) (by omega)
theorem refPut2T (l : Nat) (A : Option Addr) (n c : Nat) (xs : List UInt8) (x : Nat) (w : World) (hx : RB w A n c xs) (hl : n + 2 = l) (hb : n ≤ 1000000) (hxx : x < 65536) :
    Calls Try.prog 60 #[.slice A n c, .int .u64 (x : Int), .int .i64 2] w fun e w' => ∃ g c', e = .returned (.slice (some ⟨g, 0, none⟩) l c') ∧ w.heap.size ≤ g ∧ OB w' g l c' (xs ++ leB x 2) ∧ Below w.heap.size w w' := by
  subst hl
  exact refPut_calls A n c xs x 2 w hx (by omega) (by omega) (by omega)
theorem one_cellT (w : World) (b : UInt8) : RB (w.alloc (.cells #[.int .u8 (b.toNat : Int)] 5)) (some ⟨w.heap.size, 0, none⟩) 1 1 [b] := lit_read w [b] 1 (0, 0) 5 rfl (by omega)
theorem take_snocT {xs : List UInt8} {i : Nat} (h : i < xs.length) : xs.take (i + 1) = xs.take i ++ [xs[i]] := List.take_succ_eq_append_getElem h

set_option maxRecDepth 100000 in
set_option maxHeartbeats 4000000 in
theorem refcell_nat (A1 : Option Addr) (n1 c1 : Nat) (A3 : Option Addr) (n3 c3 : Nat) (k v : List UInt8) (s f p q t : Nat) (w : World) (hk : RB w A1 n1 c1 k) (hv : RB w A3 n3 c3 v) (hp : p ≤ n1) (hq : n1 - p = q) (h1 : n1 ≤ 255) (hs : s ≤ 262144) (hf : f < 524287) (h3 : n3 ≤ 5000) (ht : tagT s = t) :
    Calls Try.prog 62 #[.agg #[.slice A1 n1 c1, .slice A3 n3 c3, .int .i64 (s : Int), .int .i64 (f : Int)], .int .i64 (p : Int)] w fun e w' => ∃ g m c', e = .returned (.slice (some ⟨g, 0, none⟩) m c') ∧ w.heap.size ≤ g ∧ OB w' g m c' (vF 9 q ++ k.drop p ++ vF 9 t ++ (if 512 < s then leB f 4 else v)) ∧ Below w.heap.size w w' := by
  obtain ⟨Y, hY⟩ : ∃ Y, (if 512 < s then leB f 4 else v) = Y := ⟨_, rfl⟩
  rw [hY]
  have HY := hideIt hY
  clear hY
  have TG := fun W => refTag_calls (s : Int) W
  rw [show clampT (s : Int) = s by unfold clampT; omega, ht] at TG
  have tl := tagT_le s hs
  rw [ht] at tl
  have ql : q ≤ 255 := by omega
  have uq := u64_wrap q (by omega)
  have uf := u64_wrap f (by omega)
  have eq : (n1 : Int) - (p : Int) = (q : Int) := by omega
  have wq : IntKind.i64.wrap (q : Int) = (q : Int) := IntWalk.i64_in _ (by omega)
  have vq := (vl_bounds q).2
  have vt := (vl_bounds t).2
  obtain ⟨ch, hch⟩ : ∃ b, decide (512 < (s : Int)) = b := ⟨_, rfl⟩
  have HCH := hideIt hch
  have HQ := hideIt hq
  have HK := hideIt hk.len
  have HV := hideIt hv.len
  clear ht hq
  go_enter Try.func62, Try.ntmps62
  have x0 := ItAt.new w 48 (A1, n1, c1) (A3, n3, c3) (s : Int) (f : Int)
  have b0 := below1 w (.cells #[.slice A1 n1 c1, .slice A3 n3 c3, .int .i64 (s : Int), .int .i64 (f : Int)] 48)
  go_upto_region 1 with fail
  generalize hw1 : w.alloc (.cells #[.slice A1 n1 c1, .slice A3 n3 c3, .int .i64 (s : Int), .int .i64 (f : Int)] 48) = w1 at x0 b0 ⊢
  clear hw1
  obtain ⟨z0, z1, z2, z3⟩ := x0.head
  simp only at z0 z1
  have rn := RB.nil w1
  have lx1 := World.block_lt_of_cell? w1 _ z0
  go_upto_region 2 with (go_at_call 61; (refine (refPutVT (vl q) _ _ _ _ q _ rn (by omega) (by omega) (by omega)).mono ?_); rintro en w2 ⟨g2, e2, rfl, s2, o2, y2⟩)
  have x2 := x0.below y2
  have b2 := blw_step b0 y2
  have lg2 : w.heap.size < g2 := Nat.lt_of_lt_of_le lx1 s2
  rw [List.nil_append] at o2
  clear x0 b0 z0 z1 z2 z3 rn lx1 y2 s2
  go_wp2
  go_loopw [5, 6] (fun bb ii wr => ∃ (i g m cc : Nat), p ≤ i ∧ i ≤ n1 ∧ ii = .int .i64 (i : Int) ∧ bb = .slice (some ⟨g, 0, none⟩) m cc ∧ m = vl q + (i - p) ∧ w.heap.size < g ∧ OB wr g m cc (vF 9 q ++ (k.drop p).take (i - p)) ∧ ItAt wr ⟨w.heap.size, 0, none⟩ (A1, n1, c1) (A3, n3, c3) (s : Int) (f : Int) ∧ Below w.heap.size w wr)
    (fun _ ii _ => n1 - (intOf ii).toNat)
  case atStart => exact ⟨p, g2, vl q, e2, by omega, by omega, rfl, rfl, by omega, lg2, by simpa using o2, x2, b2⟩
  case round =>
    clear o2 x2 b2 lg2
    obtain ⟨i, g, m, cc, hpi, hi, rfl, rfl, hm, lg, o, x, b⟩ := hrel
    obtain ⟨z0, z1, z2, z3⟩ := x.head
    simp only at z0 z1
    by_cases hlt : i < n1
    · have rk := hk.below b
      obtain ⟨ad, rfl, cell⟩ := rk.at_ i (by rw [HK.out]; exact hlt)
      have hil : i - p < (k.drop p).length := by rw [List.length_drop, HK.out]; omega
      have st := take_snocT hil
      have eb : (k.drop p)[i - p] = k[i]'(by rw [HK.out]; exact hlt) := by
        rw [List.getElem_drop]; congr 1; omega
      rw [eb] at st
      have ST := hideIt st
      obtain ⟨y, hy⟩ : ∃ y, k[i]'(by rw [HK.out]; exact hlt) = y := ⟨_, rfl⟩
      rw [hy] at ST cell
      have ba := below1 wr (.cells #[.int .u8 (y.toNat : Int)] 5)
      have o1 := o.below ba
      have r1 := one_cellT wr y
      have x1 := x.below ba
      have b1 := blw_step b ba
      have i1 : (i : Int) < (n1 : Int) := by omega
      have lx1 := World.block_lt_of_cell? _ _ x1.c0
      have HM := hideIt hm
      have mb : m ≤ 1000 := by omega
      clear st eb hy hil hm
      go_wp2_with (with_reducible refine wpB_app2 rfl (.tmp 23) (.tmp 29) rfl _ _ _ _ rfl o1 _ _ _ _ rfl r1 (m + 1) rfl (by omega) ?_; intro g4 c4 w4 q4 o4)
      have F4 := grown_new q4 b1 (Nat.le_of_lt lg)
      have x4 := x1.same (sm_grown2 q4 lx1 (by simp only [ne_eq]; omega))
      have lg4 : w.heap.size < g4 := by
        rcases q4 with ⟨rfl, -, -⟩ | ⟨rfl, -⟩
        · exact lg
        · exact lx1
      have o5 : OB w4 g4 (m + 1) c4 (vF 9 q ++ (k.drop p).take (i + 1 - p)) := by
        rw [show i + 1 - p = i - p + 1 by omega, ST.out, ← List.append_assoc]; exact o4
      go_roundw
      case rel => exact ⟨i + 1, g4, m + 1, c4, by omega, by omega, by go_num, rfl, by rw [HM.out]; omega, lg4, o5, x4, F4.2⟩
      case measure => simp [intOf]; omega
    · obtain rfl : n1 = i := by omega
      have ek : (k.drop p).take (n1 - p) = k.drop p := List.take_of_length_le (by rw [List.length_drop, HK.out]; exact Nat.le_refl _)
      rw [ek] at o
      have mb : m ≤ 1000 := by omega
      have HM : Hid (m = vl q + q) := hideIt (by rw [hm, HQ.out])
      have lx := World.block_lt_of_cell? _ _ x.c0
      have t1 : decide ((n1 : Int) < (n1 : Int)) = false := decide_eq_false (by omega)
      clear ek hm
      go_upto_region 7 with (first
        | (go_at_call 38; refine (TG _).mono ?_; rintro en wx ⟨rfl, rfl⟩)
        | (go_at_call 61; (refine (refPutVT (m + vl t) _ _ _ _ t _ o.read rfl (by omega) (by omega)).mono ?_); rintro en w4 ⟨g4, e4, rfl, s4, o4, y4⟩))
      have x4 := x.below y4
      have b4 := blw_step b y4
      have lg4 : w.heap.size < g4 := Nat.lt_of_lt_of_le lx s4
      have lx4 := World.block_lt_of_cell? _ _ x4.c0
      obtain ⟨-, d1, d2, d3⟩ := x4.head
      simp only at d1
      clear o x b z0 z1 z2 z3 y4 s4 lx TG lg
      cases ch
      · have hn : ¬ 512 < s := by have := of_decide_eq_false HCH.out; omega
        have HY2 := HY.out
        rw [if_neg hn] at HY2
        subst HY2
        clear hn HY
        go_wp2
        go_loopw [5, 7] (fun bb ii wr => ∃ (i g M cc : Nat), i ≤ n3 ∧ ii = .int .i64 (i : Int) ∧ bb = .slice (some ⟨g, 0, none⟩) M cc ∧ M = m + vl t + i ∧ w.heap.size < g ∧ OB wr g M cc (vF 9 q ++ k.drop p ++ vF 9 t ++ v.take i) ∧ ItAt wr ⟨w.heap.size, 0, none⟩ (A1, n1, c1) (A3, n3, c3) (s : Int) (f : Int) ∧ Below w.heap.size w wr)
          (fun _ ii _ => n3 - (intOf ii).toNat)
        case atStart => exact ⟨0, g4, m + vl t, e4, by omega, rfl, rfl, by omega, lg4, by simpa using o4, x4, b4⟩
        case round =>
          clear o4 x4 b4 lg4 lx4 d1 d2 d3
          obtain ⟨i, g, M, cc, hi, rfl, rfl, hM, lg, o, x, b⟩ := hrel
          obtain ⟨z0, z1, z2, z3⟩ := x.head
          simp only at z0 z1
          by_cases hlt : i < n3
          · have rv := hv.below b
            obtain ⟨ad, rfl, cell⟩ := rv.at_ i (by rw [HV.out]; exact hlt)
            have st := take_snocT (xs := v) (i := i) (by rw [HV.out]; exact hlt)
            have ST := hideIt st
            obtain ⟨y, hy⟩ : ∃ y, v[i]'(by rw [HV.out]; exact hlt) = y := ⟨_, rfl⟩
            rw [hy] at ST cell
            have ba := below1 wr (.cells #[.int .u8 (y.toNat : Int)] 5)
            have o1 := o.below ba
            have r1 := one_cellT wr y
            have x1 := x.below ba
            have b1 := blw_step b ba
            have i1 : (i : Int) < (n3 : Int) := by omega
            have lx1 := World.block_lt_of_cell? _ _ x1.c0
            have HM2 := hideIt hM
            have mb2 : M ≤ 100000 := by omega
            clear st hy hM
            go_wp2_with (with_reducible refine wpB_app2 rfl (.tmp 51) (.tmp 57) rfl _ _ _ _ rfl o1 _ _ _ _ rfl r1 (M + 1) rfl (by omega) ?_; intro g6 c6 w6 q6 o6)
            have F6 := grown_new q6 b1 (Nat.le_of_lt lg)
            have x6 := x1.same (sm_grown2 q6 lx1 (by simp only [ne_eq]; omega))
            have lg6 : w.heap.size < g6 := by
              rcases q6 with ⟨rfl, -, -⟩ | ⟨rfl, -⟩
              · exact lg
              · exact lx1
            have o7 : OB w6 g6 (M + 1) c6 (vF 9 q ++ k.drop p ++ vF 9 t ++ v.take (i + 1)) := by
              rw [ST.out, ← List.append_assoc]; exact o6
            go_roundw
            case rel => exact ⟨i + 1, g6, M + 1, c6, by omega, by go_num, rfl, by rw [HM2.out]; omega, lg6, o7, x6, F6.2⟩
            case measure => simp [intOf]; omega
          · obtain rfl : n3 = i := by omega
            rw [List.take_of_length_le (by rw [HV.out]; exact Nat.le_refl _)] at o
            have t2 : decide ((n3 : Int) < (n3 : Int)) = false := decide_eq_false (by omega)
            go_wp2
            go_ret
            exact ⟨g, _, cc, rfl, Nat.le_of_lt lg, o, b⟩
      · have hn : 512 < s := by have := of_decide_eq_true HCH.out; omega
        have HY2 := HY.out
        rw [if_pos hn] at HY2
        subst HY2
        clear hn HY
        go_wp2_with (go_at_call 60; refine (refPut4T _ _ _ _ f _ o4.read (by omega) (by omega)).mono ?_; rintro en w6 ⟨g6, e6, rfl, s6, o6, y6⟩)
        go_ret
        exact ⟨g6, _, e6, rfl, Nat.le_trans b4.size s6, o6, blw_step b4 y6⟩
end Go.Proofs.Ytieoleiokjoccaa
