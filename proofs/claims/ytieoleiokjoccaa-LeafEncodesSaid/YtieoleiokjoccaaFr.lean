/- coppicelaw4: num, short, first. -/
import Derived.Test.YtieoleiokjoccaaFq
import Derived.Test.YtieoleiokjoccaaFp
import Derived.Lib.SmallJoins
namespace Go.Proofs.Ytieoleiokjoccaa
open Go.RowKit

theorem num_calls (x : Int) (w : World) : Calls Try.prog 24 #[.int .i64 x] w fun e w' => e = .returned (.int .i64 x) ∧ w = w' := by
  go_enter Try.func24, Try.ntmps24
  go_wp2
  go_ret
  exact ⟨rfl, rfl⟩
def shortB (x : It) : Bool := decide (x.k.length ≤ 5000 ∧ x.v.length ≤ 5000)
def shortT (l : List It) : Bool := decide (l.length ≤ 2000) && l.all shortB
theorem short_of {l : List It} (h : shortT l = true) : l.length ≤ 2000 ∧ ∀ x ∈ l, x.k.length ≤ 5000 ∧ x.v.length ≤ 5000 := by
  unfold shortT at h
  rw [Bool.and_eq_true] at h
  exact ⟨of_decide_eq_true h.1, fun x hx => of_decide_eq_true (List.all_eq_true.1 h.2 x hx)⟩
theorem short_few {l : List It} {n : Nat} (h : shortT l = true) (hl : l.length = n) : FewT n l := by
  obtain ⟨h1, h2⟩ := short_of h
  exact ⟨by omega, fun x hx => by have := h2 x hx; omega⟩
set_option maxRecDepth 100000 in
set_option maxHeartbeats 1000000 in
theorem short_calls (A : Option Addr) (n c : Nat) (vs : List Value) (l : List It) (w : World) (h : RT w A n c vs l) :
    Calls Try.prog 12 #[.slice A n c] w fun e w' => e = .returned (.bool (shortT l)) ∧ w = w' := by
  have HL := hideIt h.len
  have mx := h.max
  by_cases h0 : 2000 < n
  · have e : shortT l = false := by unfold shortT; rw [HL.out, decide_eq_false (by omega)]; rfl
    have t1 : decide ((2000 : Int) < (n : Int)) = true := decide_eq_true (by omega)
    rw [e]
    clear e h0
    go_enter Try.func12, Try.ntmps12
    go_wp2
    go_ret
    exact ⟨rfl, rfl⟩
  · have e : shortT l = l.all shortB := by unfold shortT; rw [HL.out, decide_eq_true (by omega)]; rfl
    have t1 : decide ((2000 : Int) < (n : Int)) = false := decide_eq_false (by omega)
    obtain ⟨r1, hr1⟩ : ∃ r, l.all shortB = r := ⟨_, rfl⟩
    have H1 : Hid ((l.drop 0).all shortB = r1) := hideIt hr1
    rw [e, hr1]
    clear e h0 hr1
    go_enter Try.func12, Try.ntmps12
    go_wp2
    go_loop [3] (fun ii => ∃ i, i ≤ n ∧ ii = .int .i64 (i : Int) ∧ Hid ((l.drop i).all shortB = r1))
      (fun ii => n - (intOf ii).toNat)
    case atStart => exact ⟨0, by omega, rfl, H1⟩
    case round =>
      clear H1
      obtain ⟨i, hi, rfl, H1⟩ := hrel
      by_cases hlt : i < n
      · obtain ⟨ad, ⟨A1, n1, c1⟩, ⟨A3, n3, c3⟩, x, rfl, hx, ⟨q0, q1, q2, q3⟩, rk, rv⟩ := h.row i hlt
        simp only at q0 q1 rk rv
        have st := allT_step (f := shortB) hx
        rw [H1.out] at st
        have mk : n1 ≤ 9223372036854775807 := by have h1 := RC.le rk; have h2 := RC.mx rk; rw [maxLen_is] at h2; omega
        have mv : n3 ≤ 9223372036854775807 := by have h1 := RC.le rv; have h2 := RC.mx rv; rw [maxLen_is] at h2; omega
        have hso : shortB x = (!decide ((5000 : Int) < (n1 : Int)) && !decide ((5000 : Int) < (n3 : Int))) := by
          unfold shortB; rw [rk.len, rv.len]
          by_cases z1 : (5000 : Int) < (n1 : Int) <;> by_cases z2 : (5000 : Int) < (n3 : Int) <;> simp [z1, z2] <;> omega
        have j1 : (i : Int) < (n : Int) := by omega
        obtain ⟨a1, ha1⟩ : ∃ v, decide ((5000 : Int) < (n1 : Int)) = v := ⟨_, rfl⟩
        obtain ⟨a2, ha2⟩ : ∃ v, decide ((5000 : Int) < (n3 : Int)) = v := ⟨_, rfl⟩
        rw [ha1, ha2] at hso
        rw [hso] at st
        clear hso hx rk rv
        cases a1
        · cases a2
          · simp only [Bool.not_false, Bool.true_and] at st
            have ST := hideIt st.symm
            clear st
            go_wp2
            go_round
            case rel => exact ⟨i + 1, by omega, by go_num, ST⟩
            case measure => simp [intOf]; omega
          · simp only [Bool.not_false, Bool.not_true, Bool.true_and, Bool.false_and] at st
            subst st
            go_wp2
            go_ret
            exact ⟨rfl, rfl⟩
        · simp only [Bool.not_true, Bool.false_and] at st
          subst st
          go_wp2
          go_ret
          exact ⟨rfl, rfl⟩
      · obtain rfl : n = i := by omega
        rw [allT_end (by rw [HL.out]; exact Nat.le_refl _)] at H1
        obtain rfl := H1.out
        clear H1
        go_wp2
        go_ret
        exact ⟨rfl, rfl⟩

def exL : List It := [⟨[97, 98], [], 0, 0⟩, ⟨[97, 98, 99], [121, 122], 2, 0⟩]
theorem ex_err : errT exL = 0 := by decide
theorem ex_size : sizeT exL = 17 := by decide
theorem ex_used : usedT exL = [1, 2, 0, 2, 97, 98, 10, 0, 12, 0, 0, 0, 1, 99, 4, 121, 122] := by decide
theorem ex_body : bodyT exL = [1, 2, 0, 2, 97, 98, 10, 0, 12, 0, 0, 0, 1, 99, 4, 121, 122] ++ zer 4075 := by
  unfold bodyT; rw [ex_used, ex_size]
theorem ex_take : (bodyT exL).take 17 = [1, 2, 0, 2, 97, 98, 10, 0, 12, 0, 0, 0, 1, 99, 4, 121, 122] := by
  rw [ex_body]; exact List.take_left' rfl
theorem ex_drop : (bodyT exL).drop 17 = zeros 4075 := by
  rw [ex_body]; exact List.drop_left' rfl
theorem make_fullT (n : Nat) (hn : n ≤ 1000000) : ∃ (Z : Array Value), (∀ w : World, OB (w.alloc (.cells Z 5)) w.heap.size n n (zeros n)) ∧ ∀ w, (Instr.makeSlice 34 (.int .i64 (n : Int)) (.int .i64 (n : Int))).run Try.prog w = .ok (.slice (some ⟨w.heap.size, 0, none⟩) n n) (w.alloc (.cells Z 5)) := by
  obtain ⟨i0, hi, hz0, hz1, hz2⟩ := info_parts info_u8
  have e := (toList_madeCells_one (.int .u8 0) n).trans (u8s_zeros n).symm
  have e2 : (madeCells (Value.cells (.int .u8 0)) n).toList = u8s (zeros n) := e
  refine ⟨madeCells (Value.cells (.int .u8 0)) n, fun w => ?_, fun w => ?_⟩
  · have hsz : (madeCells (Value.cells (.int .u8 0)) n).size = n := by rw [← Array.length_toList, e2, u8s_length, zeros_length]
    exact OC.mk (by rw [u8s_length, zeros_length, Nat.mul_one]) _ (heap_alloc_new w _) (Nat.le_refl _) (by rw [maxLen_is]; omega) (by rw [hsz, Nat.mul_one]) (by rw [e2, Nat.mul_one]; exact List.take_of_length_le (by rw [u8s_length, zeros_length]; exact Nat.le_refl _))
  · have hr := run_make (P := Try.prog) w 34 5 i0 (.int .u8 0) Try.underlying34 hi hz0 .i64 .i64 n n (by omega) (by omega) (by rw [hz2]; omega) (by omega)
    simp only [Int.toNat_natCast] at hr
    rw [hz1, Nat.mul_one] at hr
    exact hr
theorem RT.two {w : World} {R : Addr} {p q p' q' : Option Addr × Nat × Nat} {x y : It} (hr : RC w 4 (some R) 2 2 [sv p, sv q, .int .i64 x.s, .int .i64 x.f, sv p', sv q', .int .i64 y.s, .int .i64 y.f]) (h1 : RB w p.1 p.2.1 p.2.2 x.k) (h2 : RB w q.1 q.2.1 q.2.2 x.v) (h3 : RB w p'.1 p'.2.1 p'.2.2 y.k) (h4 : RB w q'.1 q'.2.1 q'.2.2 y.v) :
    RT w (some R) 2 2 [sv p, sv q, .int .i64 x.s, .int .i64 x.f, sv p', sv q', .int .i64 y.s, .int .i64 y.f] [x, y] :=
  ⟨hr, rfl, fun j z hj => by
    match j with
    | 0 => simp at hj; subst hj; exact ⟨p, q, rfl, rfl, rfl, rfl, h1, h2⟩
    | 1 => simp at hj; subst hj; exact ⟨p', q', rfl, rfl, rfl, rfl, h3, h4⟩
    | j + 2 => simp at hj⟩
theorem RT.nilT (w : World) : RT w none 0 0 [] [] := ⟨⟨rfl, Nat.le_refl _, Nat.zero_le _, fun _ => rfl, fun ad e => by cases e⟩, rfl, fun j z hj => by simp at hj⟩
theorem err_nil : errT [] = 40 := by decide

theorem DecOut.someT {B : List UInt8} {w w' : World} {en : Ending} {l : List It} (q : DecOut B w en w') (h : decT B = some l) : ∃ (zs : List Cel) (A : Option Addr) (n c : Nat), en = .returned (.tuple #[.slice A n c, .int .i64 0]) ∧ OT w' w.heap.size A n c zs ∧ its zs = l ∧ Below w.heap.size w w' := by
  obtain ⟨A, n, c, zs, e, o, hd, -, b⟩ := q
  have hne : decT B ≠ none := by rw [h]; simp
  rw [if_neg hne] at e hd
  rw [h] at hd
  exact ⟨zs, A, n, c, e, o, (Option.some.inj hd).symm, b⟩
theorem DecOut.noneT {B : List UInt8} {w w' : World} {en : Ending} (q : DecOut B w en w') (h : decT B = none) : ∃ (A : Option Addr) (c : Nat) (zs : List Cel), en = .returned (.tuple #[.slice A 0 c, .int .i64 40]) ∧ OT w' w.heap.size A 0 c zs ∧ its zs = [] ∧ Below w.heap.size w w' := by
  obtain ⟨A, n, c, zs, e, o, hd, hn, b⟩ := q
  rw [if_pos h] at e
  obtain rfl := hn h
  refine ⟨A, c, zs, e, o, ?_, b⟩
  have := o.n
  have : zs = [] := List.eq_nil_of_length_eq_zero this
  rw [this]; rfl

set_option maxRecDepth 100000 in
set_option maxHeartbeats 8000000 in
theorem first_calls (w : World) :
    Calls Try.prog 11 #[] w fun e w' => e = .returned (.bool true) ∧ Below w.heap.size w w' := by
  have kc := fun (w : World) (C : Array Value) (n c g : Nat) (hg : g = w.heap.size) => Joins.run_convert_bytes_const_at (P := Try.prog) w 34 5 C n c g hg Try.underlying34 Try.underlying5
  have sa : RB (w.alloc (.cells #[.int .u8 97, .int .u8 98] 5 (2, 3))) (some ⟨w.heap.size, 0, none⟩) 2 2 [97, 98] := lit_read w [97, 98] 2 (2, 3) 5 rfl (by decide)
  have xa := below1 w (.cells #[.int .u8 97, .int .u8 98] 5 (2, 3))
  have za : (w.alloc (.cells #[.int .u8 97, .int .u8 98] 5 (2, 3))).heap.size = w.heap.size + 1 := by simp
  generalize hwa : w.alloc (.cells #[.int .u8 97, .int .u8 98] 5 (2, 3)) = wa at sa xa za
  have sb : RB (wa.alloc (.cells #[.int .u8 97, .int .u8 98, .int .u8 99] 5 (3, 4))) (some ⟨wa.heap.size, 0, none⟩) 3 3 [97, 98, 99] := lit_read wa [97, 98, 99] 3 (3, 4) 5 rfl (by decide)
  have xb := below1 wa (.cells #[.int .u8 97, .int .u8 98, .int .u8 99] 5 (3, 4))
  have zb : (wa.alloc (.cells #[.int .u8 97, .int .u8 98, .int .u8 99] 5 (3, 4))).heap.size = w.heap.size + 2 := by simp [za]
  rw [za] at sb
  generalize hwb : wa.alloc (.cells #[.int .u8 97, .int .u8 98, .int .u8 99] 5 (3, 4)) = wb at sb xb zb
  have sc : RB (wb.alloc (.cells #[.int .u8 121, .int .u8 122] 5 (2, 3))) (some ⟨wb.heap.size, 0, none⟩) 2 2 [121, 122] := lit_read wb [121, 122] 2 (2, 3) 5 rfl (by decide)
  have xc := below1 wb (.cells #[.int .u8 121, .int .u8 122] 5 (2, 3))
  have zc : (wb.alloc (.cells #[.int .u8 121, .int .u8 122] 5 (2, 3))).heap.size = w.heap.size + 3 := by simp [zb]
  rw [zb] at sc
  generalize hwc : wb.alloc (.cells #[.int .u8 121, .int .u8 122] 5 (2, 3)) = wc at sc xc zc
  have rr : RC (wc.alloc (.cells #[.slice (some ⟨w.heap.size, 0, none⟩) 2 2, .slice none 0 0, .int .i64 0, .int .i64 0, .slice (some ⟨w.heap.size + 1, 0, none⟩) 3 3, .slice (some ⟨w.heap.size + 2, 0, none⟩) 2 2, .int .i64 2, .int .i64 0] 48)) 4 (some ⟨wc.heap.size, 0, none⟩) 2 2 [.slice (some ⟨w.heap.size, 0, none⟩) 2 2, .slice none 0 0, .int .i64 0, .int .i64 0, .slice (some ⟨w.heap.size + 1, 0, none⟩) 3 3, .slice (some ⟨w.heap.size + 2, 0, none⟩) 2 2, .int .i64 2, .int .i64 0] :=
    OC.read (e := 48) (OC.mk rfl _ (heap_alloc_new wc _) (Nat.le_refl _) (by rw [maxLen_is]; omega) rfl rfl)
  have xr := below1 wc (.cells #[.slice (some ⟨w.heap.size, 0, none⟩) 2 2, .slice none 0 0, .int .i64 0, .int .i64 0, .slice (some ⟨w.heap.size + 1, 0, none⟩) 3 3, .slice (some ⟨w.heap.size + 2, 0, none⟩) 2 2, .int .i64 2, .int .i64 0] 48)
  rw [zc] at rr
  have mm : RT _ _ 2 2 _ exL := RT.two (p := (some ⟨w.heap.size, 0, none⟩, 2, 2)) (q := (none, 0, 0)) (p' := (some ⟨w.heap.size + 1, 0, none⟩, 3, 3)) (q' := (some ⟨w.heap.size + 2, 0, none⟩, 2, 2)) (x := ⟨[97, 98], [], 0, 0⟩) (y := ⟨[97, 98, 99], [121, 122], 2, 0⟩) rr (((sa.below xb).below xc).below xr) (RB.nil _) ((sb.below xc).below xr) (sc.below xr)
  have xall := ((xa.trans (xb.mono xa.size)).trans (xc.mono (Nat.le_trans xa.size xb.size))).trans (xr.mono (Nat.le_trans (Nat.le_trans xa.size xb.size) xc.size))
  have EN := Encode_ok _ _ _ _ _ _ mm ex_err
  subst hwc hwb hwa
  clear sa xa za sb xb zb sc xc zc rr xr
  go_enter Try.func11, Try.ntmps11
  go_upto_region 3 with (go_at_call 23; refine EN.mono ?_; rintro en w2 ⟨g2, rfl, s2, o2, x2⟩)
  have m2 := mm.below x2
  have b2 := xall.trans (x2.mono xall.size)
  clear mm xall EN x2 s2 kc
  have l3 : RB (w2.alloc (.cells #[.int .u8 1, .int .u8 2, .int .u8 0, .int .u8 2, .int .u8 97, .int .u8 98, .int .u8 10, .int .u8 0, .int .u8 12, .int .u8 0, .int .u8 0, .int .u8 0, .int .u8 1, .int .u8 99, .int .u8 4, .int .u8 121, .int .u8 122] 5)) (some ⟨w2.heap.size, 0, none⟩) 17 17 [1, 2, 0, 2, 97, 98, 10, 0, 12, 0, 0, 0, 1, 99, 4, 121, 122] := lit_read w2 [1, 2, 0, 2, 97, 98, 10, 0, 12, 0, 0, 0, 1, 99, 4, 121, 122] 17 (0, 0) 5 rfl (by decide)
  have ba3 := below1 w2 (.cells #[.int .u8 1, .int .u8 2, .int .u8 0, .int .u8 2, .int .u8 97, .int .u8 98, .int .u8 10, .int .u8 0, .int .u8 12, .int .u8 0, .int .u8 0, .int .u8 0, .int .u8 1, .int .u8 99, .int .u8 4, .int .u8 121, .int .u8 122] 5)
  go_upto_region 4 with fail
  generalize hw3 : w2.alloc (.cells #[.int .u8 1, .int .u8 2, .int .u8 0, .int .u8 2, .int .u8 97, .int .u8 98, .int .u8 10, .int .u8 0, .int .u8 12, .int .u8 0, .int .u8 0, .int .u8 0, .int .u8 1, .int .u8 99, .int .u8 4, .int .u8 121, .int .u8 122] 5) = w3 at l3 ba3 ⊢
  have m3 := m2.below ba3
  have o3 := o2.below ba3
  have b3 := blw_step b2 ba3
  generalize w2.heap.size = g3 at l3 ⊢
  clear hw3 ba3 m2 o2 b2
  have SZ := Size_calls _ 2 2 _ _ _ m3 ⟨by omega, fun x hx => by simp [exL] at hx; rcases hx with rfl | rfl <;> decide⟩
  rw [ex_size] at SZ
  go_upto_region 6 with (first
    | (go_at_call 14; refine SZ.mono ?_; rintro en w4 ⟨rfl, x4⟩)
    | (go_at_call 24; refine (num_calls _ _).mono ?_; rintro en wx ⟨rfl, rfl⟩))
  have b4 := blw_step b3 x4
  have m4 := m3.below x4
  have o4 := o3.below x4
  have l4 := l3.below x4
  clear SZ b3 m3 o3 l3 x4
  go_upto_region 7 with (go_at_call 27; refine (SameBytes_calls _ _ _ _ _ _ _ _ _ (o4.read.take 17 (by omega)) l4 true (by rw [ex_take]; rfl)).mono ?_; rintro en wx ⟨rfl, rfl⟩)
  clear l4
  obtain ⟨Z, hZ, MK0⟩ := make_fullT 4075 (by decide)
  have MK : ∀ w, (Instr.makeSlice 34 (.int .i64 4075) (.int .i64 4075)).run Try.prog w = .ok (.slice (some ⟨w.heap.size, 0, none⟩) 4075 4075) (w.alloc (.cells Z 5)) := MK0
  clear MK0
  have hcut := o4.read.cut (A' := some ⟨g2, 17, none⟩) 17 4092 4092 (by decide) (by decide) (by decide) (by decide) (fun _ => by simp [Addr.add]) (fun e => by cases e)
  rw [show 4092 - 17 = 4075 from rfl, List.take_of_length_le (by rw [List.length_drop, o4.len]; exact Nat.le_refl _), ex_drop] at hcut
  have ba5 : Below w4.heap.size w4 (w4.alloc (.cells Z 5)).drew := (below1 w4 (.cells Z 5)).drew
  have h5 := hcut.below ba5
  have z5 : RB (w4.alloc (.cells Z 5)).drew (some ⟨w4.heap.size, 0, none⟩) 4075 4075 (zeros 4075) := ((hZ w4).below (drew1 _)).read
  have SB := SameBytes_calls _ _ _ _ _ _ _ _ _ h5 z5 true (by simp)
  clear hcut hZ
  go_region_held3 (fun _ => True) (trivial)
    (first
      | (go_at_call 27; (with_reducible refine SB.mono ?_); rintro en wx ⟨rfl, rfl⟩))
  have b5 := blw_step b4 ba5
  have m5 := m4.below ba5
  have o5 := o4.below ba5
  clear SB h5 z5 MK b4 m4 o4 ba5
  go_upto_region 9 with (go_at_call 25; refine (Decode_calls _ _ _ _ _ o5.read).mono ?_; intro en w6 qd; obtain ⟨zs, A6, n6, c6, rfl, ot6, hz6, x6⟩ := qd.someT (decT_body ex_err))
  have b6 := blw_step b5 x6
  have m6 := m5.below x6
  clear b5 m5 o5 x6 qd
  go_upto_region 10 with (go_at_call 26; refine (SameItems_calls _ _ _ _ _ _ _ _ _ _ _ ot6.read m6 true (by simp [hz6])).mono ?_; rintro en w7 ⟨rfl, x7⟩)
  have b7 := blw_step b6 x7
  clear b6 m6 x7 ot6 hz6
  have EN := Encode_no none 0 0 [] [] w7 (RT.nilT _) (by decide) (by rw [err_nil]; decide)
  rw [err_nil] at EN
  go_upto_region 11 with (go_at_call 23; refine EN.mono ?_; rintro en w8 ⟨rfl, x8⟩)
  have b8 := blw_step b7 x8
  clear EN b7 x8
  go_wp2_with (go_at_call 24; refine (num_calls _ _).mono ?_; rintro en wx ⟨rfl, rfl⟩)
  go_ret
  exact ⟨rfl, b8⟩
end Go.Proofs.Ytieoleiokjoccaa
