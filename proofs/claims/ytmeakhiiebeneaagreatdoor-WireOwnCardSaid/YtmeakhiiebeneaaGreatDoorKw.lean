/- coppicelaw1.WireOwn: parts and walk. -/
import Derived.Test.YtmeakhiiebeneaaGreatDoorKp
import Derived.Test.YtmeakhiiebeneaaGreatDoorVl
import Derived.Test.YtmeakhiiebeneaaGreatDoorVe
namespace Go.Proofs.YtmeakhiiebeneaaGreatDoor
open Go.RowKit

/-- A reader whose two blocks are named. -/
def RdX (w : World) (g gb n c : Nat) (B : List UInt8) (at_ : Nat) (e : Int) : Prop :=
  OC w 110 1 g 3 3 [.slice (some ⟨gb, 0, none⟩) n c, .int .i64 (at_ : Int), .int .i64 e] ∧ OB w gb n c B ∧ gb < g ∧ (at_ ≤ n ∧ n ≤ 140737488355328)
theorem RdX.rd {w : World} {g gb n c : Nat} {B : List UInt8} {at_ : Nat} {e : Int} (h : RdX w g gb n c B at_ e) : Rd w g B at_ e :=
  ⟨_, gb, n, c, h.1, h.2.1, h.2.2.1, h.2.2.2.1, h.2.2.2.2, by decide⟩
theorem RdX.below {w w' : World} {g gb n c : Nat} {B : List UInt8} {at_ : Nat} {e : Int} (h : RdX w g gb n c B at_ e) (b : Below w.heap.size w w') : RdX w' g gb n c B at_ e :=
  ⟨h.1.below b, h.2.1.below b, h.2.2⟩
theorem RdX.sm {w w' : World} {g gb n c : Nat} {B : List UInt8} {at_ : Nat} {e : Int} (h : RdX w g gb n c B at_ e) (s1 : Sm w w' g) (s2 : Sm w w' gb) : RdX w' g gb n c B at_ e :=
  ⟨h.1.same s1, h.2.1.same s2, h.2.2⟩
theorem RdX.setAt {w : World} {g gb n c : Nat} {B : List UInt8} {at_ : Nat} {e : Int} (h : RdX w g gb n c B at_ e) (v : Int) (a' : Nat) (hv : v = (a' : Int)) (ha : a' ≤ n) : RdX (w.setCell ⟨g, 1, none⟩ (.int .i64 v)) g gb n c B a' e := by
  subst hv
  exact ⟨h.1.set 1 _, h.2.1.same (Sm.setCell w _ _ (Nat.ne_of_lt h.2.2.1)), h.2.2.1, ha, h.2.2.2.2⟩
theorem RdX.drewN {w : World} {g gb n c : Nat} {B : List UInt8} {at_ : Nat} {e : Int} (h : RdX w g gb n c B at_ e) (m : Nat) : RdX (w.drewN m) g gb n c B at_ e :=
  ⟨h.1.same rfl, h.2.1.same rfl, h.2.2⟩
set_option maxRecDepth 100000 in
set_option maxHeartbeats 1000000 in
theorem take_x (g gb n c : Nat) (B : List UInt8) (at_ m : Nat) (w : World) (h : RdX w g gb n c B at_ 0) (hm : at_ + m ≤ n) (hn : n ≤ 1000000) :
    Calls Tryz.prog 82 #[.pointer (some ⟨g, 0, none⟩), .int .i64 (m : Int)] w fun en w' => ∃ A, en = .returned (.slice A m m) ∧ RB w' A m m ((B.drop at_).take m) ∧ RdX w' g gb n c B (at_ + m) 0 ∧ w.grownBy w' (some g) := by
  have c0 := h.1.cell 0 _ rfl
  have c1 := h.1.cell 1 _ rfl
  have c2 := h.1.cell 2 _ rfl
  have f1 := h.1.free 1
  have ob := h.2.1
  have ne : gb ≠ g := Nat.ne_of_lt h.2.2.1
  have lc : n ≤ c := OC.le ob
  have e1 : (((at_ + m : Nat) : Int)) = (at_ : Int) + (m : Int) := by omega
  have i1 : (m : Int) ≤ (n : Int) - (at_ : Int) := by omega
  have i2 : (at_ : Int) ≤ (n : Int) := by omega
  have i3 : (at_ : Int) + (m : Int) ≤ (n : Int) := by omega
  have i4 : (n : Int) ≤ (c : Int) := by omega
  rcases Nat.eq_zero_or_pos m with h0 | h0
  · subst h0
    have i5 : (at_ : Int) ≤ (c : Int) := by omega
    go_enter Tryz.func82, Tryz.ntmps82
    go_wp2
    go_quiet (fail)
    go_wp2
    go_quiet (fail)
    go_wp2
    go_ret
    refine ⟨_, rfl, RB.zero _ _, ?_, ?_⟩
    · exact (h.drewN _).setAt _ _ (by omega) (by omega)
    · exact grownBy_drewSet _ _ _ _ _
  · have cut := ob.read.cut (A' := some ⟨gb, at_, none⟩) at_ (at_ + m) (at_ + m) (by omega) hm (Nat.le_refl _) (by omega) (fun _ => by simp [Addr.add]) (fun q => by cases q)
    rw [Nat.add_sub_cancel_left] at cut
    have d0 : decide ((m : Int) < 0) = false := decide_eq_false (by omega)
    go_enter Tryz.func82, Tryz.ntmps82
    go_wp2
    go_quiet (fail)
    go_wp2
    go_quiet (fail)
    go_wp2
    go_ret
    rw [Nat.add_sub_cancel_left]
    refine ⟨_, rfl, ?_, ?_, ?_⟩
    · exact cut.same (fun ad q _ => by cases q; exact Sm.setCell _ _ _ ne)
    · exact (h.drewN _).setAt _ _ e1.symm (by omega)
    · exact grownBy_drewSet _ _ _ _ _
set_option maxRecDepth 100000 in
set_option maxHeartbeats 1000000 in
theorem Bytes_x (g gb n c : Nat) (B : List UInt8) (at_ m : Nat) (w : World) (h : RdX w g gb n c B at_ 0) (hm : at_ + m ≤ n) (hn : n ≤ 1000000) :
    Calls Tryz.prog 26 #[.pointer (some ⟨g, 0, none⟩), .int .i64 (m : Int)] w fun en w' => ∃ g2, en = .returned (.slice (some ⟨g2, 0, none⟩) m m) ∧ w.heap.size ≤ g2 ∧ OB w' g2 m m ((B.drop at_).take m) ∧ RdX w' g gb n c B (at_ + m) 0 ∧ w.grownBy w' (some g) := by
  have con := take_x g gb n c B at_ m w h hm hn
  go_enter Tryz.func26, Tryz.ntmps26
  go_wp2_with (first
    | (go_at_call 78; refine (grown_calls _ _ _ 0 _ _ r1 (by omega)).mono ?_; rintro en w2 ⟨g2, rfl, s2, o2, x2⟩)
    | (go_at_call 82; refine con.mono ?_; rintro en w1 ⟨A1, rfl, r1, d1, g1⟩))
  go_ret
  exact ⟨g2, rfl, Nat.le_trans g1.size s2, o2, d1.below x2, grown_below g1 x2⟩
set_option maxRecDepth 100000 in
set_option maxHeartbeats 400000 in
theorem NewReader_x (A : Option Addr) (n c : Nat) (xs : List UInt8) (w : World) (hx : RB w A n c xs) (hb : n ≤ 140737488355328) :
    Calls Tryz.prog 23 #[.slice A n c] w fun e w' => ∃ g gb c', e = .returned (.pointer (some ⟨g, 0, none⟩)) ∧ w.heap.size ≤ gb ∧ RdX w' g gb n c' xs 0 0 ∧ Below w.heap.size w w' := by
  go_enter Tryz.func23, Tryz.ntmps23
  go_wp2_with (go_at_call 78; refine (grown_calls _ _ _ 0 _ _ hx (by omega)).mono ?_; rintro e w1 ⟨g1, rfl, s1, o1, b1⟩)
  have z1 := b1.size
  go_ret
  exact ⟨_, g1, n + 0, rfl, s1, ⟨OC.mk rfl _ (heap_alloc_new w1 _) (Nat.le_refl _) (by rw [maxLen_is]; omega) rfl rfl, o1.same (Sm.alloc w1 _ o1.lt), o1.lt, Nat.zero_le _, hb⟩, b1.alloc z1 _⟩

def Off (ps : List Slot) (g : Nat) : Prop := ∀ p ∈ ps, ∀ a, p.1 = some a → a.block ≠ g
theorem Off.snoc {ps : List Slot} {g : Nat} (h : Off ps g) {p : Slot} (hp : ∀ a, p.1 = some a → a.block ≠ g) : Off (ps ++ [p]) g := by
  intro q hq a ha
  rcases List.mem_append.1 hq with z | z
  · exact h q z a ha
  · rw [List.mem_singleton] at z
    subst z
    exact hp a ha
theorem Off.one {ps : List Slot} {g b n c : Nat} (h : Off ps g) (hb : b ≠ g) : Off (ps ++ [(some ⟨b, 0, none⟩, n, c)]) g := h.snoc fun a ha => by cases ha; exact hb
theorem Off.new {w : World} {base e sz rt n c g : Nat} {A : Option Addr} {ps : List Slot} {css : List (List Value)} (h : LS w base e sz rt A n c ps css) (hg : w.heap.size ≤ g) : Off ps g := fun p hp a ha => by
  have := (h.lt p hp a ha).1; omega
theorem Off.ne {ps : List Slot} {g : Nat} (h : Off ps g) : ∀ p ∈ ps, ∀ a b, p.1 = some a → (some ⟨g, 0, none⟩ : Option Addr) = some b → a.block ≠ b.block := by
  intro p hp a b ha hb
  cases hb
  exact h p hp a ha
theorem lens_snocW {xss : List (List UInt8)} {K : Nat} (h : ∀ xs ∈ xss, xs.length ≤ K) {ys : List UInt8} (hy : ys.length ≤ K) : ∀ xs ∈ xss ++ [ys], xs.length ≤ K := by
  intro xs hx
  rcases List.mem_append.1 hx with q | q
  · exact h xs q
  · rw [List.mem_singleton] at q; rw [q]; exact hy
/-- where a block of another type alone is written, the book stays. -/
theorem BookB.odd {w w' : World} {gk base m cb cw g e sz N C : Nat} {Ab Aw : Option Addr} {ps pw : List Slot} {xss : List (List UInt8)} {zs : List Value} (h : BookB w gk base m Ab cb Aw cw ps pw xss) (k : w.grownBy w' (some g)) (o : OC w e sz g N C zs) (n1 : 5 ≠ e) (n2 : 40 ≠ e) (n3 : 39 ≠ e) : BookB w' gk base m Ab cb Aw cw ps pw xss := by
  have f : ∀ {n c : Nat} {A : Option Addr} {qs : List Slot}, LS w base 5 1 40 A n c qs (xss.map u8s) → LS w' base 5 1 40 A n c qs (xss.map u8s) := fun ls =>
    ls.other k (fun a e1 e2 => by
      rcases GC.oc ls.row with ⟨e0, _⟩ | ⟨g0, e0, _, og⟩
      · rw [e0] at e1; cases e1
      · rw [e0] at e1; cases e1
        have e2 : g0 = g := e2
        subst e2
        exact absurd (OC.tyy og o) n2) (fun p hp a e1 e2 => by
      obtain ⟨j, hj⟩ := List.getElem?_of_mem hp
      obtain ⟨cs, hc⟩ : ∃ cs, (xss.map u8s)[j]? = some cs := ⟨_, List.getElem?_eq_getElem (by rw [← ls.len]; exact (List.getElem?_eq_some_iff.1 hj).1)⟩
      rcases GC.oc (ls.each j p cs hj hc) with ⟨e0, _⟩ | ⟨g0, e0, _, og⟩
      · rw [e0] at e1; cases e1
      · rw [e0] at e1; cases e1
        have e2 : g0 = g := e2
        subst e2
        exact absurd (OC.tyy og o) n1)
  exact ⟨h.bk.same (Sm.of_grown k h.bk.lt (by
    simp only [ne_eq, Option.some.injEq]
    rintro rfl
    exact absurd (OC.tyy h.bk o) n3)), f h.ls, f h.lw, h.ap⟩
section
variable {w : World} {ops : Array Oper} {rest : List Oper} {o : Oper} {a : Act} {Q : Exit → Act → World → Prop}
set_option maxRecDepth 100000 in
/-- s[p:q] -/
theorem wpS_midW (hgd : o.guard = none) (x lo hi : Operand) (hop : o.op = Op.slice 40 x (some lo) (some hi) none) (A : Option Addr) (n c : Nat) (xs : List UInt8) (hx : a.eval x = .slice A n c) (hr : RB w A n c xs)
    (zp zq : Int) (p q d : Nat) (hlo : a.eval lo = .int .i64 zp) (hhi : a.eval hi = .int .i64 zq) (hzp : zp = (p : Int)) (hzq : zq = (q : Int)) (hpq : p ≤ q) (hq : q ≤ n) (hd : q - p = d)
    (h : ∀ A' c', RB w A' d c' ((xs.drop p).take d) → wpList Tryz.prog ops Q rest (a.put o.dst (.slice A' d c')) w) : wpList Tryz.prog ops Q (o :: rest) a w := by
  have hm := RC.le hr
  have el : Tryz.prog.elem 40 = 5 := by kernel_rfl
  refine wpList_plain hgd fun K hK' => ?_
  have hrun : (Instr.sliceAt 40 (.slice A n c) (some (.int .i64 zp)) (some (.int .i64 zq)) none).run Tryz.prog w = .ok (.slice (if c = p then A else A.map (·.add p)) d (c - p)) w := by
    subst hzp hzq hd
    have h1 : (0 : Int) ≤ (p : Int) ∧ (p : Int) ≤ (q : Int) ∧ (q : Int) ≤ (c : Int) := by omega
    rw [run_sliceAt_slice _ _ _ _ _ _ Tryz.underlying40, run_slice_lh _ _ _ _ _ Tryz.underlying40 _ _ _ _ h1.1 h1.2.1 h1.2.2]
    simp [sliced, el]
  have hcut := hr.cut (A' := if c = p then A else A.map (·.add p)) p q c hpq hq (by omega) (Nat.le_refl _) (fun e => by rw [if_neg e]) (fun e => by
      by_cases hcp : c = p
      · exact Or.inl hcp
      · rw [if_neg hcp] at e
        cases A with
        | none => exact Or.inr rfl
        | some ad => cases e)
  rw [hd] at hcut
  unfold Oper.wp
  simp [execOp, hop, hx, hlo, hhi, hrun, Result.andThen]
  exact hK' _ _ (h _ _ hcut)
set_option maxRecDepth 100000 in
/-- s[p:] -/
theorem wpS_fromW (hgd : o.guard = none) (x lo : Operand) (hop : o.op = Op.slice 40 x (some lo) none none) (A : Option Addr) (n c : Nat) (xs : List UInt8) (hx : a.eval x = .slice A n c) (hr : RB w A n c xs)
    (z : Int) (p d : Nat) (hlo : a.eval lo = .int .i64 z) (hz : z = (p : Int)) (hp : p ≤ n) (hd : n - p = d)
    (h : ∀ A' c', RB w A' d c' (xs.drop p) → wpList Tryz.prog ops Q rest (a.put o.dst (.slice A' d c')) w) : wpList Tryz.prog ops Q (o :: rest) a w := by
  have hm := RC.le hr
  have el : Tryz.prog.elem 40 = 5 := by kernel_rfl
  refine wpList_plain hgd fun K hK' => ?_
  have hrun : (Instr.sliceAt 40 (.slice A n c) (some (.int .i64 z)) none none).run Tryz.prog w = .ok (.slice (if c = p then A else A.map (·.add p)) d (c - p)) w := by
    subst hz hd
    have h1 : (0 : Int) ≤ (p : Int) ∧ (p : Int) ≤ (n : Int) := by omega
    rw [run_sliceAt_slice _ _ _ _ _ _ Tryz.underlying40, run_slice_l _ _ _ _ _ Tryz.underlying40 _ _ h1.1 h1.2]
    simp [sliced, el]
  have hcut := hr.cut (A' := if c = p then A else A.map (·.add p)) p n c hp (Nat.le_refl _) hm (Nat.le_refl _) (fun e => by rw [if_neg e]) (fun e => by
      by_cases hcp : c = p
      · exact Or.inl hcp
      · rw [if_neg hcp] at e
        cases A with
        | none => exact Or.inr rfl
        | some ad => cases e)
  rw [hd, List.take_of_length_le (by rw [List.length_drop, hr.len]; omega)] at hcut
  unfold Oper.wp
  simp [execOp, hop, hx, hlo, hrun, Result.andThen]
  exact hK' _ _ (h _ _ hcut)
end
theorem putS_len (x u : Nat) (h : u = 0 ∨ u = 1 ∨ u = 2 ∨ u = 4 ∨ u = 8) : (putS x u).length ≤ 10 := by
  unfold putS
  split
  · exact (vF_length 9 x).2
  · rw [leB_length]; omega
end Go.Proofs.YtmeakhiiebeneaaGreatDoor
