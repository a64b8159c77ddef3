/- leaf.Encode. -/
import Derived.Test.YtieoleiokjoccaaFe
import Derived.Test.YtieoleiokjoccaaWk
namespace Go.Proofs.Ytieoleiokjoccaa
open Go.RowKit

theorem cell_calls (A1 : Option Addr) (n1 c1 : Nat) (A3 : Option Addr) (n3 c3 : Nat) (x : It) (p m : Nat) (w : World) (hk : RB w A1 n1 c1 x.k) (hv : RB w A3 n3 c3 x.v) (hp : p ≤ n1) (h1 : lenOk x = true) (h2 : holdT x = true) (hm : (cellT p x).length = m) :
    Calls Try.prog 45 #[.agg #[.slice A1 n1 c1, .slice A3 n3 c3, .int .i64 x.s, .int .i64 x.f], .int .i64 (p : Int)] w fun e w' => ∃ g c', e = .returned (.slice (some ⟨g, 0, none⟩) m c') ∧ w.heap.size ≤ g ∧ OB w' g m c' (cellT p x) ∧ Below w.heap.size w w' := by
  obtain ⟨q1, q2, q3, q4⟩ := of_decide_eq_true h1
  have kl := hk.len
  have vl' := hv.len
  obtain ⟨s, hs⟩ : ∃ s : Nat, x.s = (s : Int) := ⟨x.s.toNat, by omega⟩
  have hfv : ∃ f : Nat, x.f = (f : Int) ∧ f < 524287 ∧ n3 ≤ 5000 := by
    unfold holdT at h2
    split at h2
    · have := of_decide_eq_true h2
      exact ⟨x.f.toNat, by omega, by omega, by omega⟩
    · have := of_decide_eq_true h2
      exact ⟨0, by omega, by omega, by omega⟩
  obtain ⟨f, hf, fb, nb⟩ := hfv
  have e : cellT p x = vF 9 (n1 - p) ++ x.k.drop p ++ vF 9 (tagT s) ++ (if 512 < s then leB f 4 else x.v) := by
    unfold cellT restT tagT
    rw [kl]
    by_cases hc : 512 < s
    · rw [if_pos (show 512 < x.s by omega), if_pos hc, if_pos hc, hs, hf, Int.toNat_natCast, Int.toNat_natCast]
      simp only [List.append_assoc]
    · rw [if_neg (show ¬ 512 < x.s by omega), if_neg hc, if_neg hc, hs, Int.toNat_natCast]
      simp only [List.append_assoc]
  have := cell_nat A1 n1 c1 A3 n3 c3 x.k x.v s f p (n1 - p) (tagT s) w hk hv hp rfl (by omega) (by omega) fb nb rfl
  rw [hs, hf]
  refine this.mono ?_
  rintro en w' ⟨g, m', c', rfl, g1, o, b⟩
  rw [← e] at o
  have := o.len
  rw [hm] at this
  subst this
  exact ⟨g, c', rfl, g1, o, b⟩

/-! ### the body, as it is laid -/
def atT (l : List It) (i : Nat) : Nat := (headT l).length + 2 * l.length + (ct (preT l) (l.take i)).length
def bodyAt (l : List It) (i j : Nat) : List UInt8 :=
  headT l ++ slT ((headT l).length + 2 * l.length) (preT l) l j ++ (zer (2 * (l.length - j)) ++ (ct (preT l) (l.take i) ++ zer (4092 - atT l i)))
theorem splice_zer (X Y ys : List UInt8) (off k : Nat) (hX : X.length = off) (hy : ys.length ≤ k) :
    (X ++ (zer k ++ Y)).take off ++ (ys.take ys.length ++ (X ++ (zer k ++ Y)).drop (off + ys.length)) = X ++ ys ++ (zer (k - ys.length) ++ Y) := by
  have e1 : (X ++ (zer k ++ Y)).take off = X := List.take_left' hX
  have e2 : (X ++ (zer k ++ Y)).drop (off + ys.length) = zer (k - ys.length) ++ Y := by
    rw [← List.drop_drop, List.drop_left' hX, List.drop_append_of_le_length (by rw [zer_length]; exact hy)]
    unfold zer
    rw [List.drop_replicate]
  rw [e1, e2, List.take_length, List.append_assoc]
theorem bodyAt_slot (l : List It) (i : Nat) (hi : i < l.length) :
    (bodyAt l i i).take ((headT l).length + 2 * i) ++ ((leB (atT l i) 2).take 2 ++ (bodyAt l i i).drop ((headT l).length + 2 * i + 2)) = bodyAt l i (i + 1) := by
  have h := splice_zer (headT l ++ slT ((headT l).length + 2 * l.length) (preT l) l i) (ct (preT l) (l.take i) ++ zer (4092 - atT l i)) (leB (atT l i) 2) ((headT l).length + 2 * i) (2 * (l.length - i)) (by rw [List.length_append, slT_length]) (by rw [leB_length]; omega)
  rw [leB_length] at h
  unfold bodyAt
  rw [h, slT_succ]
  simp only [List.append_assoc]
  rw [show 2 * (l.length - i) - 2 = 2 * (l.length - (i + 1)) by omega]
  rfl
theorem bodyAt_cell (l : List It) (i : Nat) (x : It) (hx : l[i]? = some x) (hf : atT l i + (cellT (preT l) x).length ≤ 4092) :
    (bodyAt l i (i + 1)).take (atT l i) ++ ((cellT (preT l) x).take (cellT (preT l) x).length ++ (bodyAt l i (i + 1)).drop (atT l i + (cellT (preT l) x).length)) = bodyAt l (i + 1) (i + 1) := by
  have hi : i < l.length := (List.getElem?_eq_some_iff.1 hx).1
  have h := splice_zer (headT l ++ slT ((headT l).length + 2 * l.length) (preT l) l (i + 1) ++ (zer (2 * (l.length - (i + 1))) ++ ct (preT l) (l.take i))) [] (cellT (preT l) x) (atT l i) (4092 - atT l i) (by
    simp only [List.length_append, slT_length, zer_length]; unfold atT; omega) (by omega)
  have e : bodyAt l i (i + 1) = headT l ++ slT ((headT l).length + 2 * l.length) (preT l) l (i + 1) ++ (zer (2 * (l.length - (i + 1))) ++ ct (preT l) (l.take i)) ++ (zer (4092 - atT l i) ++ []) := by
    unfold bodyAt
    simp only [List.append_assoc, List.append_nil]
  rw [e, h]
  have ea : atT l (i + 1) = atT l i + (cellT (preT l) x).length := by unfold atT; rw [ct_succ _ _ _ _ hx, List.length_append]; omega
  unfold bodyAt
  rw [ct_succ _ _ _ _ hx, ea]
  simp only [List.append_assoc, List.append_nil]
  rw [Nat.sub_sub]
theorem bodyAt_end {l : List It} (h : OkT l) : bodyAt l l.length l.length = bodyT l := by
  have hs := usedT_length h
  unfold bodyAt bodyT
  have e : atT l l.length = sizeT l := by
    rw [← hs]
    unfold atT usedT
    simp only [List.length_append, slT_length, List.take_length]
  rw [e, List.take_length, Nat.sub_self]
  unfold usedT
  simp only [List.append_assoc]
  rfl
theorem bodyAt_start {l : List It} (h : OkT l) : (zeros 4092).take 0 ++ ((headT l).take (headT l).length ++ (zeros 4092).drop (0 + (headT l).length)) = bodyAt l 0 0 := by
  have h1 := usedT_length h
  have h2 := h.size
  have hle : (headT l).length + 2 * l.length ≤ 4092 := by
    unfold usedT at h1
    simp only [List.length_append, slT_length] at h1
    omega
  unfold bodyAt atT zeros zer slT ct
  simp only [List.take_zero, List.nil_append, List.take_length, Nat.zero_add, List.drop_replicate, List.range_zero, List.flatMap_nil, List.append_nil, List.length_nil, Nat.add_zero, Nat.sub_zero, List.replicate_append_replicate]
  congr 2
  omega
theorem cut_at {g p : Nat} (hp : p < 4092) (d : Nat) (hd : 4092 - p = d) : ∀ (w : World), (Instr.sliceAt 34 (.slice (some ⟨g, 0, none⟩) 4092 4092) (some (.int .i64 (p : Int))) none none).run Try.prog w = .ok (.slice (some ⟨g, p, none⟩) d d) w := by
  subst hd
  intro w
  have h1 : (0 : Int) ≤ (p : Int) ∧ (p : Int) ≤ 4092 := by omega
  rw [run_sliceAt_slice _ _ _ _ _ _ Try.underlying34, run_slice_l _ _ _ _ _ Try.underlying34 _ _ h1.1 (by simpa using h1.2)]
  have e : ¬ 4092 = p := by omega
  simp [sliced, elem_u8s, e, Addr.add]
  exact fun h => h.symm
section
variable {w : World} {ops : Array Oper} {rest : List Oper} {o : Oper} {a : Act} {Q : Exit → Act → World → Prop}
set_option maxRecDepth 100000 in
/-- s[:p] -/
theorem wpS_toT (hgd : o.guard = none) (x hi : Operand) (hop : o.op = Op.slice 34 x none (some hi) none) (A : Option Addr) (n c : Nat) (xs : List UInt8) (hx : a.eval x = .slice A n c) (hr : RB w A n c xs)
    (p : Nat) (hhi : a.eval hi = .int .i64 (p : Int)) (hp : p ≤ n)
    (h : RB w A p c (xs.take p) → wpList Try.prog ops Q rest (a.put o.dst (.slice A p c)) w) : wpList Try.prog ops Q (o :: rest) a w := by
  have hm := RC.le hr
  refine wpList_plain hgd fun K hK' => ?_
  have hrun : (Instr.sliceAt 34 (.slice A n c) none (some (.int .i64 (p : Int))) none).run Try.prog w = .ok (.slice A p c) w := by
    have h1 : (0 : Int) ≤ (p : Int) ∧ (p : Int) ≤ (c : Int) := by omega
    rw [run_sliceAt_slice _ _ _ _ _ _ Try.underlying34, run_slice_h _ _ _ _ _ Try.underlying34 _ _ h1.1 h1.2]
    simp [sliced, elem_u8s]
    cases A with
    | none => simp
    | some ad => rw [Option.map_some, Addr.add_zero']; exact fun _ => rfl
  unfold Oper.wp
  simp [execOp, hop, hx, hhi, hrun, Result.andThen]
  exact hK' _ _ (h (hr.take p hp))
end
theorem head_len {l : List It} (h : OkT l) : (headT l).length + 2 * l.length ≤ 4092 ∧ 0 < l.length := by
  have h1 := usedT_length h
  have h2 := h.size
  unfold usedT at h1
  simp only [List.length_append, slT_length] at h1
  exact ⟨by omega, by have := h.n; cases l with | nil => exact absurd rfl this | cons x t => simp⟩
theorem Put16T (l : Nat) (A : Option Addr) (n c : Nat) (xs : List UInt8) (x : Nat) (w : World) (hx : RB w A n c xs) (hl : n + 2 = l) (hb : n ≤ 1000000) (hxx : x < 65536) :
    Calls Try.prog 44 #[.slice A n c, .int .u16 (x : Int)] w fun e w' => ∃ g c', e = .returned (.slice (some ⟨g, 0, none⟩) l c') ∧ w.heap.size ≤ g ∧ OB w' g l c' (xs ++ leB x 2) ∧ Below w.heap.size w w' := by
  subst hl
  exact Put16_calls A n c xs x w hx (by omega) (Nat.lt_of_lt_of_eq hxx (by decide))
theorem u16_wrap (x : Nat) (h : x < 65536) : IntKind.u16.wrap (x : Int) = (x : Int) := by rw [IntKind.wrap_u16]; omega

set_option maxRecDepth 100000 in
set_option maxHeartbeats 8000000 in
theorem Encode_ok (A : Option Addr) (n c : Nat) (vs : List Value) (l : List It) (w : World) (h : RT w A n c vs l) (hw : errT l = 0) :
    Calls Try.prog 23 #[.slice A n c] w fun e w' => ∃ g, e = .returned (.tuple #[.slice (some ⟨g, 0, none⟩) 4092 4092, .int .i64 0]) ∧ w.heap.size ≤ g ∧ OB w' g 4092 4092 (bodyT l) ∧ Below w.heap.size w w' := by
  have hO := okT_of hw
  have hl := h.len
  have hfew := hO.few
  have hF : FewT n l := ⟨by omega, fun x hx => by have := of_decide_eq_true (hO.len x hx); omega⟩
  have hw0 : wrongT l = 0 := by
    unfold errT at hw
    by_cases z : wrongT l = 0
    · exact z
    · rw [if_neg z] at hw; exact hw
  have hsz := hO.size
  have MY := fun W q => may_calls A n c vs l W q
  rw [hw0] at MY
  have SZ := fun W q => Size_calls A n c vs l W q hF
  generalize sizeT l = Z at hsz SZ
  have PX := fun W q => prefix_calls A n c vs l W q (by omega)
  obtain ⟨hh1, hh2⟩ := head_len hO
  have EN := hideIt (bodyAt_end hO)
  have ST0 := hideIt (bodyAt_start hO)
  have HE : Hid (headT l = [1] ++ leB l.length 2 ++ vF 9 (preT l) ++ ((keysT l).headD []).take (preT l)) := hideIt rfl
  have HHL := headT_length l
  obtain ⟨p, hp⟩ : ∃ p, preT l = p := ⟨_, rfl⟩
  have HP := hideIt hp
  rw [hp] at HHL PX HE
  obtain ⟨H, hH⟩ : ∃ H, (headT l).length = H := ⟨_, rfl⟩
  have HHH := hideIt hH
  rw [hH] at HHL hh1
  rw [hl] at hh1 hh2
  have LN := hideIt hl
  have vp := (vl_bounds p).2
  have un := u16_wrap n (by omega)
  have upp := u64_wrap p (by omega)
  have HHL2 := hideIt HHL
  have pb : p ≤ 4092 := by omega
  have HOH := hideIt hO
  clear hl hw hw0 hfew hp hH HHL hO
  go_enter Try.func23, Try.ntmps23
  go_upto_region 2 with (go_at_call 43; refine (MY _ h).mono ?_; rintro en w1 ⟨rfl, b1⟩)
  have h1 := h.below b1
  clear MY
  go_upto_region 6 with (go_at_call 14; refine (SZ _ h1).mono ?_; rintro en w2 ⟨rfl, y2⟩)
  have b2 := blw_step b1 y2
  have h2 := h1.below y2
  clear SZ h1 y2 b1
  go_upto_region 7 with (go_at_call 32; refine (PX _ h2).mono ?_; rintro en w3 ⟨rfl, y3⟩)
  have b3 := blw_step b2 y3
  clear PX h2 y3 b2 hsz
  have lit := lit_read w3 [1] 1 (0, 0) 5 rfl (by decide)
  have b3a := blw_step b3 (below1 w3 (.cells #[.int .u8 1] 5))
  go_upto_region 8 with (first
    | (go_at_call 30; (refine (PutVT (3 + vl p) _ _ _ _ p _ o4.read rfl (by omega) (by omega)).mono ?_); rintro en w5 ⟨g5, e5, rfl, s5, o5, y5⟩)
    | (go_at_call 44; (refine (Put16T 3 _ _ _ _ n _ lit rfl (by omega) (by omega)).mono ?_); rintro en w4 ⟨g4, e4, rfl, s4, o4, y4⟩; have b4 := blw_step b3a y4))
  have b5 := blw_step b4 y5
  have s5' := Nat.le_trans b4.size s5
  clear lit b3 b3a o4 y4 y5 s4 s5 b4
  obtain ⟨ad, ⟨A0, n0, e0⟩, q0, x0, rfl, hx0, it0, rk0, -⟩ := (h.below b5).row 0 hh2
  have c00 := it0.c0
  rw [Nat.zero_mul, Addr.add_zero'] at c00
  simp only at c00 rk0
  have pn0 : p ≤ n0 := by rw [← rk0.len, ← HP.out]; exact (preT_le l x0 (List.mem_of_getElem? hx0)).2
  have hd0 : (keysT l).headD [] = x0.k := by rw [List.headD_eq_head?_getD, List.head?_eq_getElem?, keysT_get l 0 x0 hx0]; rfl
  rw [hd0, LN.out] at HE
  have i0 : (0 : Int) < (n : Int) := by omega
  clear it0 hx0 hd0
  go_upto_region 9 with (first
    | (with_reducible refine wpS_toT rfl (.tmp 34) (.tmp 35) rfl _ _ _ _ rfl rk0 p rfl pn0 ?_; intro rk1)
    | (with_reducible refine wpB_app2 rfl (.tmp 30) (.tmp 36) rfl _ _ _ _ rfl o5 _ _ _ _ rfl rk1 (3 + vl p + p) rfl (by omega) ?_; intro g6 e6 w6 q6 o6))
  have F6 := grown_new q6 b5 s5'
  have eT : [1] ++ leB n 2 ++ vF 9 p ++ x0.k.take p = headT l := HE.out.symm
  rw [eT, ← HHL2.out] at o6
  obtain ⟨b6, s6⟩ := F6.symm
  rw [← HHL2.out]
  clear q6 F6 o5 b5 s5' rk0 c00 eT HE i0 pn0 rk1
  go_upto_region 11 with (first
    | (with_reducible refine wpB_copy rfl (.tmp 39) (.tmp 40) rfl _ _ _ rfl _ _ _ rfl _ 4092 4092 0 _ _ o7 o67 H (by omega) (fun _ => rfl) (by omega) ?_; intro w8 o8 k8)
    | (at_make; refine wpB_full rfl _ _ rfl _ _ _ _ 4092 rfl rfl rfl rfl (by omega) ?_; intro g0 w7 s7 o7 k7; have b7 := b6.trans (below_of_grown k7 b6.size (by simp)); have o67 := (o6.same (Sm.of_grown k7 o6.lt (by simp))).read))
  have b8 := blw_own b7 k8 b7.size (Nat.le_trans b6.size s7)
  have o8' := ST0.out
  rw [HHH.out] at o8'
  rw [o8'] at o8
  have g0w := Nat.le_trans b6.size s7
  clear o8' k8 o67 b7 k7 o7 s7 b6 s6 o6 ST0
  go_wp2
  go_loopw [8, 9, 50] (fun ss aa ii wr => ∃ (i S a : Nat), i ≤ n ∧ ss = .int .i64 (S : Int) ∧ aa = .int .i64 (a : Int) ∧ ii = .int .i64 (i : Int) ∧ Hid (S = H + 2 * i) ∧ Hid (a = atT l i) ∧ OB wr g0 4092 4092 (bodyAt l i i) ∧ Below w.heap.size w wr)
    (fun _ _ ii _ => n - (intOf ii).toNat)
  case atStart => exact ⟨0, H, H + 2 * n, by omega, rfl, by go_num, rfl, hideIt rfl, hideIt (by unfold atT; rw [HHH.out, LN.out]; simp [ct]), o8, b8⟩
  case round =>
    clear o8 b8
    obtain ⟨i, S, a, hi, rfl, rfl, rfl, HS, HA, o, b⟩ := hrel
    by_cases hlt : i < n
    · obtain ⟨ad', ⟨A1, n1, c1⟩, ⟨A3, n3, c3⟩, x, e', hx, it, rk, rv⟩ := h.row i hlt
      cases e'
      simp only at rk rv
      have lx := HOH.out.len x (List.mem_of_getElem? hx)
      have hx2 := HOH.out.hold x (List.mem_of_getElem? hx)
      have px : p ≤ n1 := by rw [← rk.len, ← HP.out]; exact (preT_le l x (List.mem_of_getElem? hx)).2
      have fit := cellT_fit HOH.out i x hx
      obtain ⟨m, hm⟩ : ∃ m, (cellT p x).length = m := ⟨_, rfl⟩
      have fit2 : a + m ≤ 4092 := by
        rw [HA.out, ← hm, ← HP.out]; exact fit
      have hH0 := hh1
      have Sb : S + 2 ≤ a := by
        rw [HS.out, HA.out]; unfold atT; rw [HHH.out, LN.out]; omega
      have bs := bodyAt_slot l i (by rw [LN.out]; exact hlt)
      have bc := bodyAt_cell l i x hx (by rw [← HA.out, HP.out, hm]; exact fit2)
      rw [HHH.out, ← HA.out, ← HS.out] at bs
      rw [← HA.out, HP.out, hm] at bc
      have BS := hideIt bs
      have BC := hideIt bc
      have HA2 : Hid (a + m = atT l (i + 1)) := hideIt (by
        rw [HA.out, ← hm, ← HP.out]; unfold atT; rw [ct_succ _ _ _ _ hx, List.length_append]; omega)
      have HS2 : Hid (S + 2 = H + 2 * (i + 1)) := hideIt (by rw [HS.out]; omega)
      have LX := hideIt lx
      have HX2 := hideIt hx2
      have HMM := hideIt hm
      have j1 : (i : Int) < (n : Int) := by omega
      have ua := u16_wrap a (by omega)
      have c1' := cut_at (g := g0) (show S < 4092 by omega) (4092 - S) rfl
      have cA := fun (hm0 : 0 < m) => cut_at (g := g0) (show a < 4092 by omega) (4092 - a) rfl
      have hm0 : 0 < m := by
        rw [← hm]; unfold cellT; rw [List.length_append]
        have := (vl_bounds (x.k.length - p)).1
        unfold vl at this
        omega
      have c2' := cA hm0
      obtain ⟨d1, hd1⟩ : ∃ d, 4092 - S = d := ⟨_, rfl⟩
      obtain ⟨d2, hd2⟩ : ∃ d, 4092 - a = d := ⟨_, rfl⟩
      rw [hd1] at c1'
      rw [hd2] at c2'
      have d1b := hideIt (show 2 = min 2 d1 by omega)
      have d2b := hideIt (show m = min m d2 by omega)
      have w1a : IntKind.i64.wrap ((S : Int) + 2) = (S : Int) + 2 := IntWalk.i64_in _ (by omega)
      have w2a : IntKind.i64.wrap ((a : Int) + (m : Int)) = (a : Int) + (m : Int) := IntWalk.i64_in _ (by omega)
      have itr := it.below b
      obtain ⟨i0, i1, i2, i3⟩ := itr
      simp only at i0 i1
      have x1 := ItAt.new wr 48 (A1, n1, c1) (A3, n3, c3) x.s x.f
      have ba := below1 wr (.cells #[.slice A1 n1 c1, .slice A3 n3 c3, .int .i64 x.s, .int .i64 x.f] 48)
      have o1 := o.below ba
      have b1 := blw_step b ba
      have lb := o.lt
      clear fit lx hx2 hm bs bc hx it cA hd1 hd2 o b ba
      go_upto_region 14 with fail
      generalize hw1 : wr.alloc (.cells #[.slice A1 n1 c1, .slice A3 n3 c3, .int .i64 x.s, .int .i64 x.f] 48) = w1 at x1 o1 b1 ⊢
      clear hw1 i0 i1 i2 i3
      have o1d := o1.below (drew1 w1)
      have x1d := x1.below (drew1 w1)
      have b1d : Below w.heap.size w w1.drew := b1.drew
      have rn := RB.nil w1.drew
      clear o1 x1 b1
      go_region_held3 (fun _ => True) (trivial)
        (first
          | (refine stepB_copy rfl (.tmp 57) (.tmp 60) rfl _ _ _ rfl _ _ _ rfl g0 4092 4092 S _ _ o2 r2 2 d1b.out (fun _ => rfl) (by omega) ?_; intro w3 o3 k3)
          | (go_at_call 44; (with_reducible refine (Put16T 2 _ _ _ _ a _ rn rfl (by omega) (by omega)).mono ?_); rintro en w2 ⟨g2, e2, rfl, s2, r2', y2⟩; have o2 := o1d.below y2; have x2 := x1d.below y2; have b2 := blw_step b1d y2; rw [List.nil_append] at r2'; have r2 := r2'.read))
      have b3 := blw_own b2 k3 b2.size g0w
      have lx1 := World.block_lt_of_cell? w1.drew _ x1d.c0
      have x3 := x2.same (Sm.of_grown k3 (World.block_lt_of_cell? w2 _ x2.c0) (by simp only [ne_eq, Option.some.injEq]; omega))
      rw [BS.out] at o3
      clear o2 x2 b2 r2 r2' y2 s2 rn k3 c1' d1b w1a o1d x1d b1d lx1 BS ua
      have b3d : Below w.heap.size w w3.drew := b3.drew
      have o3d := o3.below (drew1 w3)
      have x3d := x3.below (drew1 w3)
      obtain ⟨z0, z1, z2, z3⟩ := x3d.head
      have rk3 := rk.below b3d
      have rv3 := rv.below b3d
      simp only at z0 z1
      clear o3 x3 b3
      go_wp2
      go_region_held3 (fun w' => w'.cell? ⟨wr.heap.size, 0, none⟩ = some (.slice A1 n1 c1) ∧ w'.cell? ⟨wr.heap.size, 1, none⟩ = some (.slice A3 n3 c3) ∧ w'.cell? ⟨wr.heap.size, 2, none⟩ = some (.int .i64 x.s) ∧ w'.cell? ⟨wr.heap.size, 3, none⟩ = some (.int .i64 x.f)) (first | exact ⟨z0, z1, z2, z3⟩ | exact ⟨y0, y1, y2, y3⟩ | exact ⟨v0, v1, v2, v3⟩ | go_keep)
        (first
          | (refine stepB_copy rfl (.tmp 66) (.tmp 69) rfl _ _ _ rfl _ _ _ rfl g0 4092 4092 a _ _ o4 r4.read m d2b.out (fun _ => rfl) fit2 ?_; intro w5 o5 k5; have x5 := x4.same (Sm.of_grown k5 (World.block_lt_of_cell? _ _ x4.c0) (by simp only [ne_eq, Option.some.injEq]; omega)); obtain ⟨v0, v1, v2, v3⟩ := x5.head; simp only at v0 v1)
          | (go_at_call 45; (with_reducible refine (cell_calls _ _ _ _ _ _ x p m _ rk3 rv3 px LX.out HX2.out HMM.out).mono ?_); rintro en w4 ⟨g4', e4', rfl, s4, r4, q4⟩; have o4 := o3d.below q4; have x4 := x3d.below q4; have b4 := blw_step b3d q4; obtain ⟨y0, y1, y2, y3⟩ := x4.head; simp only at y0 y1))
      rw [BC.out] at o5
      have b5 := blw_own b4 k5 b4.size g0w
      clear o4 r4 x4 b4 q4 k5 x5 v0 v1 v2 v3 y0 y1 y2 y3 z0 z1 z2 z3 rk3 rv3 o3d x3d b3d c2' d2b
      go_wp2
      go_roundw
      case rel => exact ⟨i + 1, S + 2, a + m, by omega, by go_num, by go_num, by go_num, HS2, HA2, o5, b5⟩
      case measure => simp [intOf]; omega
    · obtain rfl : n = i := by omega
      have oe := o
      rw [← LN.out, EN.out] at oe
      clear o
      go_wp2
      go_ret2
      exact ⟨g0, rfl, g0w, oe, b⟩
end Go.Proofs.Ytieoleiokjoccaa
/- leaf.Encode of anything. -/
namespace Go.Proofs.Ytieoleiokjoccaa
open Go.RowKit

set_option maxRecDepth 100000 in
set_option maxHeartbeats 1000000 in
theorem Encode_no (A : Option Addr) (n c : Nat) (vs : List Value) (l : List It) (w : World) (h : RT w A n c vs l) (hn : n ≤ 70000) (hw : errT l ≠ 0) :
    Calls Try.prog 23 #[.slice A n c] w fun e w' => e = .returned (.tuple #[.slice none 0 0, .int .i64 (errT l)]) ∧ Below w.heap.size w w' := by
  have MY := fun W q => may_calls A n c vs l W q
  by_cases h0 : wrongT l = 0
  · have hs : 4092 < sizeT l := by
      unfold errT at hw
      rw [if_pos h0] at hw
      by_cases z : 4092 < sizeT l
      · exact z
      · rw [if_neg z] at hw; exact absurd rfl hw
    have e42 : errT l = 42 := by unfold errT; rw [if_pos h0, if_pos hs]
    have hF : FewT n l := ⟨hn, fun x hx => by
      have hk : l.all lenOk = true := by
        unfold wrongT at h0
        by_cases q : l.length = 0
        · rw [if_pos q] at h0; cases h0
        · rw [if_neg q] at h0
          by_cases q2 : l.all lenOk = true
          · exact q2
          · rw [if_neg q2] at h0; cases h0
      have := of_decide_eq_true (List.all_eq_true.1 hk x hx)
      omega⟩
    have SZ := fun W q => Size_calls A n c vs l W q hF
    rw [e42]
    rw [h0] at MY
    generalize sizeT l = Z at hs SZ
    have t1 : decide ((4092 : Int) < (Z : Int)) = true := decide_eq_true (by omega)
    clear h0 hs e42 hw hF
    go_enter Try.func23, Try.ntmps23
    go_wp2_with (first
      | (go_at_call 43; refine (MY _ h).mono ?_; rintro en w1 ⟨rfl, b1⟩; have h1 := h.below b1)
      | (go_at_call 14; refine (SZ _ h1).mono ?_; rintro en w2 ⟨rfl, y2⟩; have b2 := blw_step b1 y2))
    go_ret2
    exact ⟨rfl, b2⟩
  · have e : errT l = wrongT l := by unfold errT; rw [if_neg h0]
    rw [e]
    generalize wrongT l = z at *
    have t1 : (z != 0) = true := by rw [bne_iff_ne]; exact h0
    clear h0 e hw
    go_enter Try.func23, Try.ntmps23
    go_wp2_with (go_at_call 43; refine (MY _ h).mono ?_; rintro en w1 ⟨rfl, b1⟩)
    go_ret2
    exact ⟨rfl, b1⟩
theorem Encode_calls (A : Option Addr) (n c : Nat) (vs : List Value) (l : List It) (w : World) (h : RT w A n c vs l) (hn : n ≤ 70000) :
    Calls Try.prog 23 #[.slice A n c] w fun e w' => ∃ (A' : Option Addr) (n' : Nat), e = .returned (.tuple #[.slice A' n' n', .int .i64 (encT l).2]) ∧ GB w' w.heap.size A' n' n' (encT l).1 ∧ Below w.heap.size w w' := by
  by_cases hw : errT l = 0
  · refine (Encode_ok A n c vs l w h hw).mono ?_
    rintro e w' ⟨g, rfl, h1, h2, h3⟩
    unfold encT
    rw [if_pos hw]
    exact ⟨_, _, rfl, GB.of h2 h1, h3⟩
  · refine (Encode_no A n c vs l w h hn hw).mono ?_
    rintro e w' ⟨rfl, h3⟩
    unfold encT
    rw [if_neg hw]
    exact ⟨none, 0, rfl, GB.none_ _ _, h3⟩
end Go.Proofs.Ytieoleiokjoccaa
