/- A leaf's body, byte by byte; coppicelaw4.u16. -/
import Derived.Test.YtenalocpmigppaaFr
namespace Go.Proofs.Ytenalocpmigppaa
open Go.RowKit

/-! ### what rising strings have in common -/
theorem sorted_first (a : List UInt8) (l : List (List UInt8)) (h : sorted (a :: l) = true) : ∀ s ∈ a :: l, Key.cmpB a s ≤ 0 := by
  induction l generalizing a with
  | nil => intro s hs; rw [List.mem_singleton] at hs; subst hs; rw [Key.cmpB_refl]; exact Int.le_refl _
  | cons b l ih =>
    unfold sorted at h
    rw [Bool.and_eq_true] at h
    have h1 := of_decide_eq_true h.1
    intro s hs
    rcases List.mem_cons.1 hs with rfl | hs
    · rw [Key.cmpB_refl]; exact Int.le_refl _
    · have h2 := ih b h.2 s hs
      have := Key.order a b s (by omega) h2
      omega
theorem sorted_last (l : List (List UInt8)) (h : sorted l = true) (z : List UInt8) (hz : l.getLast? = some z) : ∀ s ∈ l, Key.cmpB s z ≤ 0 := by
  induction l with
  | nil => intro s hs; cases hs
  | cons a l ih =>
    cases l with
    | nil =>
      simp at hz; subst hz
      intro s hs; rw [List.mem_singleton] at hs; subst hs; rw [Key.cmpB_refl]; exact Int.le_refl _
    | cons b l =>
      have hz' : (b :: l).getLast? = some z := by rw [← hz]; simp [List.getLast?_cons_cons]
      have hm : z ∈ b :: l := List.mem_of_getLast? hz'
      have hf := sorted_first a (b :: l) h
      have h' := h
      unfold sorted at h
      rw [Bool.and_eq_true] at h
      intro s hs
      rcases List.mem_cons.1 hs with rfl | hs
      · exact hf z (List.mem_cons_of_mem _ hm)
      · exact ih h.2 hz' s hs
/-- Of strings that rise the first and the last one tell what all have in common. -/
theorem comAll_ends (l : List (List UInt8)) (h : sorted l = true) (a z : List UInt8) (ha : l.head? = some a) (hz : l.getLast? = some z) : Key.comAll l = Key.com a z := by
  have h0 : l ≠ [] := by intro e; rw [e] at ha; cases ha
  have am : a ∈ l := List.mem_of_head? ha
  have zm : z ∈ l := List.mem_of_getLast? hz
  have hf : ∀ s ∈ l, Key.cmpB a s ≤ 0 := by
    cases l with
    | nil => exact absurd rfl h0
    | cons x l => simp at ha; subst ha; exact sorted_first x l h
  have hl := sorted_last l h z hz
  refine Nat.le_antisymm ?_ ?_
  · have h3 := Key.comAll_three a a z (by rw [Key.cmpB_refl]; exact Int.le_refl _) (hf z zm)
    rw [← h3]
    refine comAll_ge _ (by simp) _ ((l.headD []).take (Key.comAll l)) fun s hs => ?_
    have hs : s ∈ l := by
      simp at hs
      rcases hs with rfl | rfl
      · exact am
      · exact zm
    exact pre_take l s hs
  · refine comAll_ge l h0 _ (a.take (Key.com a z)) fun s hs => ?_
    have h3 := Key.comAll_three a s z (hf s hs) (hl s hs)
    have := pre_take [a, s, z] s (by simp)
    rw [h3] at this
    exact this

/-! ### the body's bytes -/
theorem drop_mid {B a m r : List UInt8} {i k : Nat} (h : B = a ++ (m ++ r)) (hi : a.length = i) (hk : m.length = k) : (B.drop i).take k = m := by
  subst hi hk
  rw [h, List.drop_left' rfl, List.take_left' rfl]
theorem slT_at (base p : Nat) (l : List It) (n i : Nat) (h : i < n) : ∃ a r, slT base p l n = a ++ (leB (base + (ct p (l.take i)).length) 2 ++ r) ∧ a.length = 2 * i := by
  induction n with
  | zero => omega
  | succ n ih =>
    by_cases e : i = n
    · subst e
      exact ⟨slT base p l i, [], by rw [slT_succ, List.append_nil], slT_length _ _ _ _⟩
    · obtain ⟨a, r, h1, h2⟩ := ih (by omega)
      exact ⟨a, r ++ leB (base + (ct p (l.take n)).length) 2, by rw [slT_succ, h1]; simp only [List.append_assoc], h2⟩
theorem ct_at (p : Nat) (l : List It) (i : Nat) (x : It) (h : l[i]? = some x) : ct p l = ct p (l.take i) ++ (cellT p x ++ ct p (l.drop (i + 1))) := by
  have h1 := ct_append p (l.take (i + 1)) (l.drop (i + 1))
  rw [List.take_append_drop, ct_succ p l i x h, List.append_assoc] at h1
  exact h1
theorem body_kind (l : List It) : (bodyT l)[0]? = some 1 := rfl
theorem body_count (l : List It) : ((bodyT l).drop 1).take 2 = leB l.length 2 := by
  refine drop_mid (a := [1]) (r := vF 9 (preT l) ++ (((keysT l).headD []).take (preT l) ++ (slT ((headT l).length + 2 * l.length) (preT l) l l.length ++ (ct (preT l) l ++ zer (4092 - sizeT l))))) ?_ rfl (leB_length _ _)
  unfold bodyT usedT
  conv => lhs; rw [show headT l = [1] ++ leB l.length 2 ++ vF 9 (preT l) ++ ((keysT l).headD []).take (preT l) from rfl]
  simp only [List.append_assoc]
  rfl
theorem body_head (l : List It) (k : Nat) (hk : (headT l).length = 3 + k) : ((bodyT l).drop 3).take k = vF 9 (preT l) ++ ((keysT l).headD []).take (preT l) := by
  have hl := headT_length l
  refine drop_mid (a := [1] ++ leB l.length 2) (r := slT ((headT l).length + 2 * l.length) (preT l) l l.length ++ (ct (preT l) l ++ zer (4092 - sizeT l))) ?_ (by rw [List.length_append, leB_length]; rfl) ?_
  · unfold bodyT usedT
    conv => lhs; rw [show headT l = [1] ++ leB l.length 2 ++ vF 9 (preT l) ++ ((keysT l).headD []).take (preT l) from rfl]
    simp only [List.append_assoc]
    rfl
  · rw [List.length_append, preT_head]
    show vl _ + _ = _
    omega
theorem body_slot (l : List It) (i H : Nat) (hi : i < l.length) (hH : (headT l).length = H) : ((bodyT l).drop (H + 2 * i)).take 2 = leB (H + 2 * l.length + (ct (preT l) (l.take i)).length) 2 := by
  obtain ⟨a, r, h1, h2⟩ := slT_at (H + 2 * l.length) (preT l) l l.length i hi
  refine drop_mid (a := headT l ++ a) (r := r ++ (ct (preT l) l ++ zer (4092 - sizeT l))) ?_ (by rw [List.length_append, h2, hH]) (leB_length _ _)
  unfold bodyT usedT
  rw [hH, h1]
  simp only [List.append_assoc]
theorem body_cell (l : List It) (i : Nat) (x : It) (hx : l[i]? = some x) : ((bodyT l).drop (atT l i)).take (cellT (preT l) x).length = cellT (preT l) x := by
  refine drop_mid (a := headT l ++ (slT ((headT l).length + 2 * l.length) (preT l) l l.length ++ ct (preT l) (l.take i))) (r := ct (preT l) (l.drop (i + 1)) ++ zer (4092 - sizeT l)) ?_ ?_ rfl
  · unfold bodyT usedT
    rw [ct_at _ _ _ _ hx]
    simp only [List.append_assoc]
  · simp only [List.length_append, slT_length]
    unfold atT
    omega
theorem body_zeros {l : List It} (h : OkT l) : (bodyT l).drop (sizeT l) = zeros (4092 - sizeT l) := by
  unfold bodyT
  rw [List.drop_left' (usedT_length h)]; rfl

theorem leB2 (v : Nat) : leB v 2 = [UInt8.ofNat (v % 256), UInt8.ofNat (v / 256 % 256)] := rfl
set_option maxRecDepth 100000 in
set_option maxHeartbeats 2000000 in
theorem u16_calls (g q v : Nat) (z : Int) (ys : List UInt8) (w : World) (o : OB w g 4092 4092 ys) (hz : z = (q : Int)) (hq : q + 1 < 4092) (h : (ys.drop q).take 2 = leB v 2) (hv : v < 65536) :
    Calls Try.prog 29 #[.slice (some ⟨g, 0, none⟩) 4092 4092, .int .i64 z] w fun e w' => e = .returned (.int .i64 (v : Int)) ∧ Below w.heap.size w w' := by
  subst hz
  rw [leB2] at h
  have e0 : ys[q]? = some (UInt8.ofNat (v % 256)) := by
    have := congrArg (fun m => m[0]?) h
    simpa [List.getElem?_take, List.getElem?_drop] using this
  have e1 : ys[q + 1]? = some (UInt8.ofNat (v / 256 % 256)) := by
    have := congrArg (fun m => m[1]?) h
    simpa [List.getElem?_take, List.getElem?_drop] using this
  have c0 := OC.cell o q (.int .u8 (((UInt8.ofNat (v % 256)).toNat : Nat) : Int)) (by unfold u8s; rw [List.getElem?_map, e0]; rfl)
  have c1 := OC.cell o (q + 1) (.int .u8 (((UInt8.ofNat (v / 256 % 256)).toNat : Nat) : Int)) (by unfold u8s; rw [List.getElem?_map, e1]; rfl)
  have b0 : (((UInt8.ofNat (v % 256)).toNat : Nat) : Int) = ((v % 256 : Nat) : Int) := by rw [UInt8.toNat_ofNat']; omega
  have b1 : (((UInt8.ofNat (v / 256 % 256)).toNat : Nat) : Int) = ((v / 256 % 256 : Nat) : Int) := by rw [UInt8.toNat_ofNat']; omega
  rw [b0] at c0
  rw [b1] at c1
  obtain ⟨lo, hlo⟩ : ∃ x, v % 256 = x := ⟨_, rfl⟩
  obtain ⟨hi, hhi⟩ : ∃ x, v / 256 % 256 = x := ⟨_, rfl⟩
  rw [hlo] at c0
  rw [hhi] at c1
  have hl : lo < 256 := by omega
  have hh : hi < 256 := by omega
  have hr : ((v : Nat) : Int) = (lo : Int) + 256 * (hi : Int) := by omega
  rw [hr]
  have i1 : (q : Int) < 4092 := by omega
  have i2 : (q : Int) + 1 < 4092 := by omega
  have i3 : ((q : Int) + 1).toNat = q + 1 := by omega
  clear e0 e1 b0 b1 h o hlo hhi hr hv hq
  go_enter Try.func29, Try.ntmps29
  go_wp2
  go_quiet (fail)
  go_wp2
  go_ret
  exact ⟨rfl, rfl, rfl, rfl, Nat.le_refl _, fun _ _ => rfl⟩

section
variable {w : World} {ops : Array Oper} {rest : List Oper} {o : Oper} {a : Act} {Q : Exit → Act → World → Prop}
set_option maxRecDepth 100000 in
/-- s[p:] -/
theorem wpS_fromT (hgd : o.guard = none) (x lo : Operand) (hop : o.op = Op.slice 34 x (some lo) none none) (A : Option Addr) (n c : Nat) (xs : List UInt8) (hx : a.eval x = .slice A n c) (hr : RB w A n c xs)
    (p d : Nat) (hlo : a.eval lo = .int .i64 (p : Int)) (hp : p ≤ n) (hd : n - p = d)
    (h : ∀ A' c', RB w A' d c' (xs.drop p) → wpList Try.prog ops Q rest (a.put o.dst (.slice A' d c')) w) : wpList Try.prog ops Q (o :: rest) a w := by
  obtain ⟨A', c', hs, hb⟩ := cut_from (A := A) (c := c) hp d hd
  refine wpList_plain hgd fun K hK' => ?_
  unfold Oper.wp
  simp [execOp, hop, hx, hlo, hs w, Result.andThen]
  exact hK' _ _ (h _ _ (hb w xs hr))
set_option maxRecDepth 100000 in
/-- s[p:q] -/
theorem wpS_midT (hgd : o.guard = none) (x lo hi : Operand) (hop : o.op = Op.slice 34 x (some lo) (some hi) none) (A : Option Addr) (n c : Nat) (xs : List UInt8) (hx : a.eval x = .slice A n c) (hr : RB w A n c xs)
    (zp zq : Int) (p q d : Nat) (hlo : a.eval lo = .int .i64 zp) (hhi : a.eval hi = .int .i64 zq) (hzp : zp = (p : Int)) (hzq : zq = (q : Int)) (hpq : p ≤ q) (hq : q ≤ n) (hd : q - p = d)
    (h : ∀ A' c', RB w A' d c' ((xs.drop p).take d) → wpList Try.prog ops Q rest (a.put o.dst (.slice A' d c')) w) : wpList Try.prog ops Q (o :: rest) a w := by
  have hm := RC.le hr
  refine wpList_plain hgd fun K hK' => ?_
  have hrun : (Instr.sliceAt 34 (.slice A n c) (some (.int .i64 zp)) (some (.int .i64 zq)) none).run Try.prog w = .ok (.slice (if c = p then A else A.map (·.add p)) d (c - p)) w := by
    subst hzp hzq hd
    have h1 : (0 : Int) ≤ (p : Int) ∧ (p : Int) ≤ (q : Int) ∧ (q : Int) ≤ (c : Int) := by omega
    rw [run_sliceAt_slice _ _ _ _ _ _ Try.underlying34, run_slice_lh _ _ _ _ _ Try.underlying34 _ _ _ _ h1.1 h1.2.1 h1.2.2]
    simp [sliced, elem_u8s]
  have hcut := hr.cut (A' := if c = p then A else A.map (·.add p)) p q c hpq hq (by omega) (Nat.le_refl _) (fun e => by rw [if_neg e]) (fun e => by
      by_cases hcp : c = p
      · exact Or.inl hcp
      · rw [if_neg hcp] at e
        cases A with
        | none => exact Or.inr rfl
        | some ad => cases e)
  rw [hd] at hcut
  unfold Oper.wp
  simp [execOp, hop, hx, hlo, hhi, hrun, Result.andThen]
  exact hK' _ _ (h _ _ hcut)
end
end Go.Proofs.Ytenalocpmigppaa
