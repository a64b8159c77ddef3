/- leaf.cell. -/
import Derived.Test.YtieoleiokjoccaaFd
import Derived.Test.YtieoleiokjoccaaWp16
import Derived.Test.YtieoleiokjoccaaWp32
import Derived.Deep.RegionHeld3
import Derived.Deep.RegionLaw
namespace Go.Proofs.Ytieoleiokjoccaa
open Go.RowKit

theorem elem_u8s : Try.prog.elem 34 = 5 := by kernel_rfl
/-- s[p:], whatever the address behind it. -/
theorem cut_from {A : Option Addr} {n c p : Nat} (hp : p ≤ n) (d : Nat) (hd : n - p = d) : ∃ (A' : Option Addr) (c' : Nat), (∀ (w : World), (Instr.sliceAt 34 (.slice A n c) (some (.int .i64 (p : Int))) none none).run Try.prog w = .ok (.slice A' d c') w) ∧ (∀ (w : World) (xs : List UInt8), RB w A n c xs → RB w A' d c' (xs.drop p)) := by
  subst hd
  refine ⟨if c = p then A else A.map (·.add p), c - p, fun w => ?_, fun w xs h => ?_⟩
  · have h1 : (0 : Int) ≤ (p : Int) ∧ (p : Int) ≤ (n : Int) := by omega
    rw [run_sliceAt_slice _ _ _ _ _ _ Try.underlying34, run_slice_l _ _ _ _ _ Try.underlying34 _ _ h1.1 h1.2]
    simp [sliced, elem_u8s]
  · have hc := RC.le h
    have hl := h.len
    have := h.cut (A' := if c = p then A else A.map (·.add p)) p n c hp (Nat.le_refl _) hc (Nat.le_refl _) (fun e => by rw [if_neg e]) (fun e => by
      by_cases hcp : c = p
      · exact Or.inl hcp
      · rw [if_neg hcp] at e
        cases A with
        | none => exact Or.inr rfl
        | some ad => cases e)
    rwa [List.take_of_length_le (by rw [List.length_drop]; omega)] at this
theorem PutVT (l : Nat) (A : Option Addr) (n c : Nat) (xs : List UInt8) (x : Nat) (w : World) (hx : RB w A n c xs) (hl : n + vl x = l) (hb : n ≤ 1000000) (hxx : x ≤ 1000000) :
    Calls Try.prog 30 #[.slice A n c, .int .u64 (x : Int)] w fun e w' => ∃ g c', e = .returned (.slice (some ⟨g, 0, none⟩) l c') ∧ w.heap.size ≤ g ∧ OB w' g l c' (xs ++ vF 9 x) ∧ Below w.heap.size w w' := by
  have hn := hx.len
  refine (PutV_calls A n c xs x w hx (by omega) (by omega)).mono ?_
  rintro e w' ⟨g, m, c', rfl, s, o, b⟩
  have := o.len
  rw [List.length_append, hn] at this
  obtain rfl : l = m := by rw [← hl, ← this]; rfl
  exact ⟨g, c', rfl, s, o, b⟩
theorem grown_new {w0 w w' : World} {g g' c c' : Nat} (q : (g' = g ∧ c' = c ∧ w.grownBy w' (some g)) ∨ (g' = w.heap.size ∧ w.grownBy w' none)) (b : Below w0.heap.size w0 w) (hg : w0.heap.size ≤ g) : w0.heap.size ≤ g' ∧ Below w0.heap.size w0 w' := by
  rcases q with ⟨rfl, -, k⟩ | ⟨rfl, k⟩
  · exact ⟨hg, blw_own b k b.size hg⟩
  · exact ⟨b.size, b.trans (below_of_grown k b.size (by simp))⟩
theorem ItAt.same {w w' : World} {a : Addr} {p q : Option Addr × Nat × Nat} {s f : Int} (h : ItAt w a p q s f) (b : Sm w w' a.block) : ItAt w' a p q s f :=
  ⟨(World.cell?_of_block (w := w) (a := a) b).trans h.c0, (World.cell?_of_block (w := w) (a := ⟨a.block, a.off + 1, none⟩) b).trans h.c1, (World.cell?_of_block (w := w) (a := ⟨a.block, a.off + 2, none⟩) b).trans h.c2, (World.cell?_of_block (w := w) (a := ⟨a.block, a.off + 3, none⟩) b).trans h.c3⟩
theorem ItAt.head {w : World} {g : Nat} {p q : Option Addr × Nat × Nat} {s f : Int} (h : ItAt w ⟨g, 0, none⟩ p q s f) : w.cell? ⟨g, 0, none⟩ = some (.slice p.1 p.2.1 p.2.2) ∧ w.cell? ⟨g, 1, none⟩ = some (.slice q.1 q.2.1 q.2.2) ∧ w.cell? ⟨g, 2, none⟩ = some (.int .i64 s) ∧ w.cell? ⟨g, 3, none⟩ = some (.int .i64 f) :=
  ⟨h.c0, h.c1, h.c2, h.c3⟩
theorem sm_grown2 {w w' : World} {g g' c c' k : Nat} (q : (g' = g ∧ c' = c ∧ w.grownBy w' (some g)) ∨ (g' = w.heap.size ∧ w.grownBy w' none)) (hk : k < w.heap.size) (hne : k ≠ g) : Sm w w' k := by
  rcases q with ⟨-, -, k1⟩ | ⟨-, k1⟩
  · exact Sm.of_grown k1 hk (by simpa using hne)
  · exact Sm.of_grown k1 hk (by simp)
theorem u32T (x : Nat) (h : x < 524287) : IntKind.u32.wrap (x : Int) = (x : Int) := by rw [IntKind.wrap_u32]; omega

set_option maxRecDepth 100000 in
set_option maxHeartbeats 4000000 in
theorem cell_nat (A1 : Option Addr) (n1 c1 : Nat) (A3 : Option Addr) (n3 c3 : Nat) (k v : List UInt8) (s f p q t : Nat) (w : World) (hk : RB w A1 n1 c1 k) (hv : RB w A3 n3 c3 v) (hp : p ≤ n1) (hq : n1 - p = q) (h1 : n1 ≤ 255) (hs : s ≤ 262144) (hf : f < 524287) (h3 : n3 ≤ 5000) (ht : tagT s = t) :
    Calls Try.prog 45 #[.agg #[.slice A1 n1 c1, .slice A3 n3 c3, .int .i64 (s : Int), .int .i64 (f : Int)], .int .i64 (p : Int)] w fun e w' => ∃ g m c', e = .returned (.slice (some ⟨g, 0, none⟩) m c') ∧ w.heap.size ≤ g ∧ OB w' g m c' (vF 9 q ++ k.drop p ++ vF 9 t ++ (if 512 < s then leB f 4 else v)) ∧ Below w.heap.size w w' := by
  obtain ⟨Y, hY⟩ : ∃ Y, (if 512 < s then leB f 4 else v) = Y := ⟨_, rfl⟩
  rw [hY]
  have HY := hideIt hY
  clear hY
  obtain ⟨A2, c2, hsl, hrb⟩ := cut_from (A := A1) (c := c1) hp q hq
  have TG := fun W => tag_calls s W hs
  rw [ht] at TG
  have tl := tagT_le s hs
  rw [ht] at tl
  have ql : q ≤ 255 := by omega
  have uq := u64_wrap q (by omega)
  have uf := u32T f hf
  have F4 : Hid (f < 256 ^ 4) := hideIt (Nat.lt_of_le_of_lt (m := 524287) (by omega) (by decide))
  have eq : (n1 : Int) - (p : Int) = (q : Int) := by omega
  have wq : IntKind.i64.wrap (q : Int) = (q : Int) := IntWalk.i64_in _ (by omega)
  have vq := (vl_bounds q).2
  have vt := (vl_bounds t).2
  obtain ⟨ch, hch⟩ : ∃ b, decide (512 < (s : Int)) = b := ⟨_, rfl⟩
  have CH := fun W => chained_calls (s : Int) ch W hch
  have HCH := hideIt hch
  clear ht hq hch
  go_enter Try.func45, Try.ntmps45
  have x0 := ItAt.new w 48 (A1, n1, c1) (A3, n3, c3) (s : Int) (f : Int)
  have b0 := below1 w (.cells #[.slice A1 n1 c1, .slice A3 n3 c3, .int .i64 (s : Int), .int .i64 (f : Int)] 48)
  go_upto_region 1 with fail
  generalize hw1 : w.alloc (.cells #[.slice A1 n1 c1, .slice A3 n3 c3, .int .i64 (s : Int), .int .i64 (f : Int)] 48) = w1 at x0 b0 ⊢
  clear hw1
  have bd : Below w.heap.size w w1.drew := b0.drew
  have xd := x0.below (drew1 w1)
  have cd := xd.c0
  have rn := RB.nil w1.drew
  simp only at cd
  clear x0 b0
  go_region_held3 (fun w' => w'.cell? ⟨w.heap.size, 0, none⟩ = some (.slice A1 n1 c1)) (first | exact cd | exact c20 | exact c30 | go_keep)
    (first
      | (refine stepB_app rfl (.tmp 12) (.tmp 16) rfl _ _ _ _ rfl o2 _ _ _ _ rfl k2 (vl q + q) rfl (by omega) ?_; intro g3 e3 w3 q3 o3; have F3 := grown_new q3 y2 s2; have x3 := xd.below F3.2; have b3 := blw_step bd F3.2; have s3 := Nat.le_trans bd.size F3.1; have c30 := x3.c0; simp only at c30)
      | (go_at_call 30; (with_reducible refine (PutVT (vl q) _ _ _ _ q _ rn (by omega) (by omega) (by omega)).mono ?_); rintro en w2 ⟨g2, e2, rfl, s2, o2, y2⟩; have c20 := (xd.below y2).c0; simp only at c20; rw [List.nil_append] at o2; have k2 := hrb _ _ (hk.below (blw_step bd y2))))
  have lt0 : w.heap.size < g3 := Nat.lt_of_lt_of_le (World.block_lt_of_cell? w1.drew _ cd) F3.1
  obtain ⟨-, -, z2, -⟩ := x3.head
  clear cd xd rn bd o2 y2 c20 k2 q3 F3 c30 s2 hsl hrb
  have rn := RB.nil w3
  go_upto_region 3 with (first
    | (with_reducible refine wpB_app2 rfl (.tmp 18) (.tmp 22) rfl _ _ _ _ rfl o34 _ _ _ _ rfl o4.read (vl q + q + vl t) rfl (by omega) ?_; intro g5 e5 w5 q5 o5)
    | (go_at_call 34; refine (TG _).mono ?_; rintro en wx ⟨rfl, rfl⟩)
    | (go_at_call 30; (refine (PutVT (vl t) _ _ _ _ t _ rn (by omega) (by omega) (by omega)).mono ?_); rintro en w4 ⟨g4, e4, rfl, s4, o4, y4⟩; have o34 := o3.below y4; have x4 := x3.below y4; rw [List.nil_append] at o4; have b4 := blw_step b3 y4))
  have F5 := grown_new q5 b4 s3
  have x5 := x4.same (sm_grown2 q5 (World.block_lt_of_cell? w4 _ x4.c0) (by simp only [ne_eq]; omega))
  have b5 := F5.2
  have s5 := F5.1
  have v5 := hv.below b5
  obtain ⟨-, d1, d2, d3⟩ := x5.head
  simp only at d1
  clear q5 F5 b4 o34 o4 x4 y4 s4 o3 b3 s3 x3 rn z2 TG
  cases ch
  · have hn : ¬ 512 < s := by have := of_decide_eq_false HCH.out; omega
    have HY2 := HY.out
    rw [if_neg hn] at HY2
    subst HY2
    clear hn HY
    go_wp2_with (first
      | (go_at_call 35; refine (CH _).mono ?_; rintro en wx ⟨rfl, rfl⟩)
      | (with_reducible refine wpB_app2 rfl (.tmp 32) (.tmp 34) rfl _ _ _ _ rfl o5 _ _ _ _ rfl v5 (vl q + q + vl t + n3) rfl (by omega) ?_; intro g6 e6 w6 q6 o6))
    have F6 := grown_new q6 b5 s5
    go_ret
    exact ⟨g6, _, e6, rfl, F6.1, o6, F6.2⟩
  · have hn : 512 < s := by have := of_decide_eq_true HCH.out; omega
    have HY2 := HY.out
    rw [if_pos hn] at HY2
    subst HY2
    clear hn HY
    go_wp2_with (first
      | (go_at_call 35; refine (CH _).mono ?_; rintro en wx ⟨rfl, rfl⟩)
      | (go_at_call 31; refine (Put32_calls _ _ _ _ f _ o5.read (by omega) F4.out).mono ?_; rintro en w6 ⟨g6, e6, rfl, s6, o6, y6⟩))
    go_ret
    exact ⟨g6, _, e6, rfl, Nat.le_trans b5.size s6, o6, blw_step b5 y6⟩
end Go.Proofs.Ytieoleiokjoccaa
