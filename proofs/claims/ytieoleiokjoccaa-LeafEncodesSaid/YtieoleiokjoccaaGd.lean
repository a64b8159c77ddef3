/- coppicelaw4.lend. -/
import Derived.Test.YtieoleiokjoccaaGa
import Derived.Deep.RegionHeld3
namespace Go.Proofs.Ytieoleiokjoccaa
open Go.RowKit

theorem lent2_drew {w : World} {a : Addr} {v : Value} (h : w.cell? a = some v) : w.drew.cell? a = some v := h
theorem to_runT (g n c : Nat) (p : Nat) (hp : p ≤ c) : ∀ (w : World), (Instr.sliceAt 34 (.slice (some ⟨g, 0, none⟩) n c) none (some (.int .i64 (p : Int))) none).run Try.prog w = .ok (.slice (some ⟨g, 0, none⟩) p c) w := by
  intro w
  have h1 : (0 : Int) ≤ (p : Int) ∧ (p : Int) ≤ (c : Int) := by omega
  rw [run_sliceAt_slice _ _ _ _ _ _ Try.underlying34, run_slice_h _ _ _ _ _ Try.underlying34 _ _ h1.1 h1.2]
  simp [sliced, elem_u8s]
  exact fun _ => rfl

def LendQ (w : World) (zs : List Cel) (n i : Nat) (x : It) (_l : List It) (wx : World) : Prop :=
  ∃ (g8 c8 : Nat) (zs8 : List Cel), OC wx 26 2 (w.heap.size + 1) 1 1 [.slice (some ⟨g8, 0, none⟩) (i + 1) c8, .int .i64 (n : Int)] ∧ OC wx 26 2 w.heap.size 1 1 [.slice none 0 0, .int .i64 0] ∧ LT wx w.heap.size (some ⟨g8, 0, none⟩) (i + 1) c8 zs8 ∧ (∃ p q, zs8 = zs ++ [⟨p, q, x⟩]) ∧ Below w.heap.size w wx
theorem lend_step {w w7 w8 : World} {zs : List Cel} {n i c3 g3 d4 g6 d6 n1 n3 g8 c8 lo : Nat} {A3 : Option Addr} {x : It} {l : List It} (kl : x.k.length = n1) (vl : x.v.length = n3) (lt7 : LT w7 w.heap.size A3 i c3 zs) (hlo : ∀ s ∈ slots zs, ∀ a, s.1 = some a → a.block < lo) (hb : w.heap.size ≤ lo) (z3 : lo ≤ g3) (z6 : lo ≤ g6) (l36 : g3 < g6)
    (o3 : OB w7 g3 (n1 + 2) d4 (x.k ++ [161, 162])) (o6 : OB w7 g6 (n3 + 2) d6 (x.v ++ [163, 164])) (oz7 : OC w7 26 2 w.heap.size 1 1 [.slice none 0 0, .int .i64 0])
    (om8 : OC w8 26 2 (w.heap.size + 1) 1 1 [.slice A3 i c3, .int .i64 (n : Int)]) (b7 : Below w.heap.size w w7) (k8 : w7.grownBy w8 (A3.map (·.block)))
    (o8 : OC w8 48 4 g8 (i + 1) c8 (itvs zs ++ itv ⟨(some ⟨g3, 0, none⟩, n1, d4), (some ⟨g6, 0, none⟩, n3, d6), x⟩)) (q8 : w.heap.size ≤ g8) :
    LendQ w zs n i x l (w8.setCell ⟨w.heap.size + 1, 0, none⟩ (.slice (some ⟨g8, 0, none⟩) (i + 1) c8)) := by
  have mk : MkT w7 lo ⟨(some ⟨g3, 0, none⟩, n1, d4), (some ⟨g6, 0, none⟩, n3, d6), x⟩ := ⟨⟨g3, d4, by rw [kl], z3, by rw [kl]; exact o3⟩, ⟨g6, d6, by rw [vl], z6, by rw [vl]; exact o6⟩⟩
  have lt8 := lt7.push mk (by intro a b ea eb; cases ea; cases eb; simp only; omega) hlo hb k8 o8 q8
  have gs := grownBy_set w8 (w.heap.size + 1) 0 (.slice (some ⟨g8, 0, none⟩) (i + 1) c8)
  have lt9 := lt8.other gs om8 (by decide) (by decide)
  have om9 := om8.set 0 (.slice (some ⟨g8, 0, none⟩) (i + 1) c8)
  have oz8 := OC.apart oz7 lt7.row k8 (by decide)
  have oz9 := oz8.same (Sm.of_grown gs oz8.lt (by simp only [ne_eq, Option.some.injEq]; omega))
  have b8 := GC.under lt7.row b7 k8 b7.size
  exact ⟨g8, c8, _, om9, oz9, lt9, ⟨_, _, rfl⟩, blw_own b8 gs b8.size (Nat.le_succ _)⟩

set_option linter.unusedSimpArgs false in
set_option maxRecDepth 100000 in
set_option maxHeartbeats 4000000 in
theorem lend_calls (A : Option Addr) (n c : Nat) (vs : List Value) (l : List It) (w : World) (h : RT w A n c vs l) (hn : n ≤ 2000) (hs : ShT l) :
    Calls Try.prog 13 #[.slice A n c] w fun e w' => ∃ (R c' : Nat) (zs : List Cel), e = .returned (.agg #[.slice (some ⟨R, 0, none⟩) (n + 1) c', .int .i64 (n : Int)]) ∧ LX w' w.heap.size R n c' zs ∧ its zs = l ∧ Below w.heap.size w w' := by
  have HL := hideIt h.len
  have HS := hideIt hs.s
  have b0 := below1 w (.cells #[.slice none 0 0, .int .i64 0] 26)
  have r0 : OC (w.alloc (.cells #[.slice none 0 0, .int .i64 0] 26)) 26 2 w.heap.size 1 1 [.slice none 0 0, .int .i64 0] := OC.mk rfl _ (heap_alloc_new w _) (Nat.le_refl _) (by rw [maxLen_is]; omega) rfl rfl
  have z0 : (w.alloc (.cells #[.slice none 0 0, .int .i64 0] 26)).heap.size = w.heap.size + 1 := by simp
  generalize hw0 : w.alloc (.cells #[.slice none 0 0, .int .i64 0] 26) = w0 at b0 r0 z0
  have b1 := below1 w0 (.cells #[.slice none 0 0, .int .i64 (n : Int)] 26)
  have m1 : OC (w0.alloc (.cells #[.slice none 0 0, .int .i64 (n : Int)] 26)) 26 2 w0.heap.size 1 1 [.slice none 0 0, .int .i64 (n : Int)] := OC.mk rfl _ (heap_alloc_new w0 _) (Nat.le_refl _) (by rw [maxLen_is]; omega) rfl rfl
  have r1 := r0.below b1
  have bb := blw_step b0 b1
  rw [z0] at m1
  generalize hw1 : w0.alloc (.cells #[.slice none 0 0, .int .i64 (n : Int)] 26) = w1 at b1 m1 r1 bb
  clear b0 r0 b1
  subst hw0
  go_enter Try.func13, Try.ntmps13
  go_wp2
  clear hw1
  go_loopw [4] (fun ii wr => ∃ (i c3 : Nat) (A3 : Option Addr) (zs : List Cel), i ≤ n ∧ ii = .int .i64 (i : Int) ∧ OC wr 26 2 (w.heap.size + 1) 1 1 [.slice A3 i c3, .int .i64 (n : Int)] ∧ OC wr 26 2 w.heap.size 1 1 [.slice none 0 0, .int .i64 0] ∧ LT wr w.heap.size A3 i c3 zs ∧ Hid (its zs = l.take i) ∧ Below w.heap.size w wr)
    (fun ii _ => n - (intOf ii).toNat)
  case atStart => exact ⟨0, 0, none, [], by omega, rfl, m1, r1, LT.nil _ _, hideIt rfl, bb⟩
  case round =>
    clear m1 r1 bb z0
    obtain ⟨i, c3, A3, zs, hi, rfl, om, oz, lt, HZ, bw⟩ := hrel
    by_cases hlt : i < n
    · obtain ⟨ad, ⟨P1, n1, c1⟩, ⟨P3, n3, d3⟩, x, rfl, hx, it, rk, rv⟩ := (h.below bw).row i hlt
      obtain ⟨i0, i1, i2, i3⟩ := it
      simp only at i0 i1 rk rv
      have st : l.take (i + 1) = l.take i ++ [x] := by rw [List.take_add_one, hx]; rfl
      have ST := hideIt st
      have hs2 := HS.out x (List.mem_of_getElem? hx)
      have KL := hideIt rk.len
      have VL := hideIt rv.len
      rw [rk.len, rv.len] at hs2
      have j1 : (i : Int) < (n : Int) := by omega
      have HLO := hideIt lt.lt
      have x1 := ItAt.new wr 48 (P1, n1, c1) (P3, n3, d3) x.s x.f
      have ba := below1 wr (.cells #[.slice P1 n1 c1, .slice P3 n3 d3, .int .i64 x.s, .int .i64 x.f] 48)
      have om1 := om.below ba
      have oz1 := oz.below ba
      have lt1 := lt.below ba
      have rk1 := rk.below ba
      have rv1 := rv.below ba
      have b1 := blw_step bw ba
      have zw : wr.heap.size ≤ (wr.alloc (.cells #[.slice P1 n1 c1, .slice P3 n3 d3, .int .i64 x.s, .int .i64 x.f] 48)).heap.size := ba.size
      have XNE : Hid (some wr.heap.size ≠ A3.map (·.block)) := hideIt (by
        rcases GC.oc lt.row with ⟨e, _⟩ | ⟨g, e, _, o⟩
        · rw [e]; simp
        · rw [e]; have := o.lt; simp; omega)
      have XNM : Hid (wr.heap.size ≠ w.heap.size + 1) := hideIt (by have := om.lt; omega)
      clear st hx rk rv om oz lt ba
      go_upto_region 6 with fail
      generalize wr.alloc (.cells #[.slice P1 n1 c1, .slice P3 n3 d3, .int .i64 x.s, .int .i64 x.f] 48) = w1' at x1 om1 oz1 lt1 rk1 rv1 b1 zw ⊢
      obtain ⟨y0, -, -, -⟩ := x1.head
      simp only at y0
      clear i0 i1 i2 i3 j1
      go_upto_region 7 with (first
        | (with_reducible refine wpB_app rfl (.tmp 23) (.tmp 24) rfl _ _ _ _ rfl o2a _ _ _ [161, 162] rfl lit (n1 + 2) rfl (by omega) ?_; intro g3 d4 w3 q3 p3 o3 k3)
        | (go_at_call 21; (with_reducible refine (Bytes_calls _ _ _ _ _ rk1 (by omega)).mono ?_); rintro en w2 ⟨g2, d2, rfl, s2, o2, x2⟩; have ba := below1 w2 (.cells #[.int .u8 161, .int .u8 162] 5); have o2a := o2.below ba; have lit : RB (w2.alloc (.cells #[.int .u8 161, .int .u8 162] 5)) (some ⟨w2.heap.size, 0, none⟩) 2 2 [161, 162] := lit_read w2 [161, 162] 2 (0, 0) 5 rfl (by decide); have bx := blw_step x2 ba))
      have c3b : Below w1'.heap.size w1' w3 := blw_own bx k3 bx.size s2
      have g3l : w1'.heap.size ≤ g3 := by
        rcases q3 with rfl | q3
        · exact s2
        · exact Nat.le_trans bx.size q3
      have x3 := x1.below c3b
      have om3 := om1.below c3b
      have oz3 := oz1.below c3b
      have lt3 := lt1.below c3b
      have rv3 := rv1.below c3b
      have b3 := blw_step b1 c3b
      have l3 := o3.lt
      clear o2 o2a lit ba bx x2 s2 k3 q3 p3 rk1 x1 om1 oz1 lt1 rv1 b1 y0
      obtain ⟨-, y1, -, -⟩ := x3.head
      simp only at y1
      go_upto_region 8 with (first
        | (with_reducible refine wpB_app rfl (.tmp 28) (.tmp 29) rfl _ _ _ _ rfl o5a _ _ _ [163, 164] rfl lit (n3 + 2) rfl (by omega) ?_; intro g6 d6 w6 q6 p6 o6 k6)
        | (go_at_call 21; (with_reducible refine (Bytes_calls _ _ _ _ _ rv3 (by omega)).mono ?_); rintro en w5 ⟨g5, d5, rfl, s5, o5, x5⟩; have ba := below1 w5 (.cells #[.int .u8 163, .int .u8 164] 5); have o5a := o5.below ba; have lit : RB (w5.alloc (.cells #[.int .u8 163, .int .u8 164] 5)) (some ⟨w5.heap.size, 0, none⟩) 2 2 [163, 164] := lit_read w5 [163, 164] 2 (0, 0) 5 rfl (by decide); have bx := blw_step x5 ba))
      have c6b : Below w3.heap.size w3 w6 := blw_own bx k6 bx.size s5
      have g6l : w3.heap.size ≤ g6 := by
        rcases q6 with rfl | q6
        · exact s5
        · exact Nat.le_trans bx.size q6
      have x6 := x3.below c6b
      have om6 := om3.below c6b
      have oz6 := oz3.below c6b
      have lt6 := lt3.below c6b
      have o36 := o3.below c6b
      have b6 := blw_step b3 c6b
      have zz : wr.heap.size ≤ g3 := Nat.le_trans zw g3l
      clear o5 o5a lit ba bx x5 s5 k6 q6 p6 rv3 x3 om3 oz3 lt3 b3 y1 o3 c3b c6b zw
      obtain ⟨a0, a1⟩ : w6.cell? ⟨w.heap.size + 1, 0, none⟩ = some (.slice A3 i c3) ∧ w6.cell? ⟨w.heap.size + 1, 1, none⟩ = some (.int .i64 (n : Int)) := om6.lent2
      obtain ⟨y0, y1, y2, y3⟩ := x6.head
      simp only at y0 y1
      have t1 := to_runT g3 (n1 + 2) d4 n1 (by have := OC.le o36; omega)
      have t2 := to_runT g6 (n3 + 2) d6 n3 (by have := OC.le o6; omega)
      have ba := below1 w6 (.cells #[.slice (some ⟨g3, 0, none⟩) n1 d4, .slice (some ⟨g6, 0, none⟩) n3 d6, .int .i64 x.s, .int .i64 x.f] 48)
      have lt7 := (lt6.below ba).below (drew1 _)
      have o37 := (o36.below ba).below (drew1 _)
      have o67 := (o6.below ba).below (drew1 _)
      have oz7 := (oz6.below ba).below (drew1 _)
      have om7 := (om6.below ba).below (drew1 _)
      have x7 := (x6.below ba).below (drew1 _)
      have R7 := (it_cell w6 ⟨(some ⟨g3, 0, none⟩, n1, d4), (some ⟨g6, 0, none⟩, n3, d6), x⟩).below (drew1 _)
      have b7 : Below w.heap.size w (w6.alloc (.cells #[.slice (some ⟨g3, 0, none⟩) n1 d4, .slice (some ⟨g6, 0, none⟩) n3 d6, .int .i64 x.s, .int .i64 x.f] 48)).drew := (blw_step b6 ba).drew
      have a0d : w6.drew.cell? ⟨w.heap.size + 1, 0, none⟩ = some (.slice A3 i c3) := a0
      have a0b : (w6.alloc (.cells #[.slice (some ⟨g3, 0, none⟩) n1 d4, .slice (some ⟨g6, 0, none⟩) n3 d6, .int .i64 x.s, .int .i64 x.f] 48)).drew.cell? ⟨w.heap.size + 1, 0, none⟩ = some (.slice A3 i c3) := om7.lent2.1
      have a0c : (w6.alloc (.cells #[.slice (some ⟨g3, 0, none⟩) n1 d4, .slice (some ⟨g6, 0, none⟩) n3 d6, .int .i64 x.s, .int .i64 x.f] 48)).cell? ⟨w.heap.size + 1, 0, none⟩ = some (.slice A3 i c3) := om7.lent2.1
      obtain ⟨dd0, dd1, dd2, dd3⟩ := (x6.below (drew1 w6)).head
      simp only at dd0 dd1
      have ORD : Hid (g3 < g6) := hideIt (Nat.lt_of_lt_of_le l3 g6l)
      have ORD2 : Hid (wr.heap.size ≤ g6) := hideIt (Nat.le_trans zz (Nat.le_trans (Nat.le_of_lt l3) g6l))
      have ORD3 := hideIt zz
      clear lt6 o36 o6 oz6 b6 om6 x6 ba l3 g6l zz g3l hs2
      refine wp_region_noPanic ?_
      refine wp_region_held_drew (S := (fun w' => w'.cell? ⟨wr.heap.size, 0, none⟩ = some (.slice P1 n1 c1) ∧ w'.cell? ⟨wr.heap.size, 1, none⟩ = some (.slice P3 n3 d3) ∧ w'.cell? ⟨wr.heap.size, 2, none⟩ = some (.int .i64 x.s) ∧ w'.cell? ⟨wr.heap.size, 3, none⟩ = some (.int .i64 x.f))) (by kernel_rfl) ?_ (fun hHeld => ?_)
      · (first | exact ⟨dd0, dd1, dd2, dd3⟩ | exact ⟨f0, f1, f2, f3⟩ | exact ⟨h0, h1', h2, h3⟩ | go_keep)
      refine wpAnyH_take (i := 0) (v := ?_) rfl (by kernel_rfl) (by kernel_rfl) (by kernel_rfl) (fun _ _ _ h => h) (Or.inl ⟨by rfl, ?_⟩) (by assumption) ?_
      rotate_left
      · (intro w hSw; (try dsimp only at hSw); go_simp; (try with_reducible rfl))
      try simp only [Act.put, List.setIfInBounds_toArray, List.set_cons_zero, List.set_cons_succ]
      refine wpAnyH_take (i := 2) (v := ?_) rfl (by kernel_rfl) (by kernel_rfl) (by kernel_rfl) (fun _ _ _ h => h) (Or.inl ⟨by rfl, ?_⟩) (by assumption) ?_
      rotate_left
      · (intro w hSw; (try dsimp only at hSw); go_simp; (try with_reducible rfl))
      try simp only [Act.put, List.setIfInBounds_toArray, List.set_cons_zero, List.set_cons_succ]
      refine wpAnyH_take (i := 3) (v := ?_) rfl (by kernel_rfl) (by kernel_rfl) (by kernel_rfl) (fun _ _ _ h => h) (Or.inl ⟨by rfl, ?_⟩) (by assumption) ?_
      rotate_left
      · (intro w hSw; (try dsimp only at hSw); go_simp; (try with_reducible rfl))
      try simp only [Act.put, List.setIfInBounds_toArray, List.set_cons_zero, List.set_cons_succ]
      refine wpAnyH_take (i := 4) (v := ?_) rfl (by kernel_rfl) (by kernel_rfl) (by kernel_rfl) (fun _ _ _ h => h) (Or.inl ⟨by rfl, ?_⟩) (by assumption) ?_
      rotate_left
      · (intro w hSw; (try dsimp only at hSw); go_simp; (try with_reducible rfl))
      try simp only [Act.put, List.setIfInBounds_toArray, List.set_cons_zero, List.set_cons_succ]
      refine wpAnyH_take (i := 5) (v := ?_) rfl (by kernel_rfl) (by kernel_rfl) (by kernel_rfl) (fun _ _ _ h => h) (Or.inl ⟨by rfl, ?_⟩) (by assumption) ?_
      rotate_left
      · (intro w hSw; (try dsimp only at hSw); go_simp; (try with_reducible rfl))
      try simp only [Act.put, List.setIfInBounds_toArray, List.set_cons_zero, List.set_cons_succ]
      refine wpAnyH_take (i := 6) (v := ?_) rfl (by kernel_rfl) (by kernel_rfl) (by kernel_rfl) (fun _ _ _ h => h) (Or.inl ⟨by rfl, ?_⟩) (by assumption) ?_
      rotate_left
      · (intro w hSw; (try dsimp only at hSw); go_simp; (try with_reducible rfl))
      try simp only [Act.put, List.setIfInBounds_toArray, List.set_cons_zero, List.set_cons_succ]
      refine wpAnyH_take (i := 7) (v := ?_) rfl (by kernel_rfl) (by kernel_rfl) (by kernel_rfl) (fun _ _ _ h => h) (Or.inl ⟨by rfl, ?_⟩) (by assumption) ?_
      rotate_left
      · (intro w hSw; (try dsimp only at hSw); go_simp; (try with_reducible rfl))
      try simp only [Act.put, List.setIfInBounds_toArray, List.set_cons_zero, List.set_cons_succ]
      refine wpAnyH_take (i := 8) (v := ?_) rfl (by kernel_rfl) (by kernel_rfl) (by kernel_rfl) (fun _ _ _ h => h) (Or.inl ⟨by rfl, ?_⟩) (by assumption) ?_
      rotate_left
      · (intro w hSw; (try dsimp only at hSw); go_simp; (try with_reducible rfl))
      try simp only [Act.put, List.setIfInBounds_toArray, List.set_cons_zero, List.set_cons_succ]
      refine wpAnyH_take (i := 9) (v := ?_) rfl (by kernel_rfl) (by kernel_rfl) (by kernel_rfl) (fun _ _ _ h => h) (Or.inl ⟨by rfl, ?_⟩) (by assumption) ?_
      rotate_left
      · (intro w hSw; (try dsimp only at hSw); go_simp; (try with_reducible rfl))
      try simp only [Act.put, List.setIfInBounds_toArray, List.set_cons_zero, List.set_cons_succ]
      refine wpAnyH_take (i := 10) (v := ?_) rfl (by kernel_rfl) (by kernel_rfl) (by kernel_rfl) (fun _ _ _ h => h) (Or.inl ⟨by rfl, ?_⟩) (by assumption) ?_
      rotate_left
      · (intro w hSw; (try dsimp only at hSw); go_simp; (try with_reducible rfl))
      try simp only [Act.put, List.setIfInBounds_toArray, List.set_cons_zero, List.set_cons_succ]
      refine wpAnyH_take (i := 11) (v := ?_) rfl (by kernel_rfl) (by kernel_rfl) (by kernel_rfl) (fun _ _ _ h => h) (Or.inl ⟨by rfl, ?_⟩) (by assumption) ?_
      rotate_left
      · (intro w hSw; (try dsimp only at hSw); go_simp; (try with_reducible rfl))
      try simp only [Act.put, List.setIfInBounds_toArray, List.set_cons_zero, List.set_cons_succ]
      refine wpAnyH_take (i := 12) (v := ?_) rfl (by kernel_rfl) (by kernel_rfl) (by kernel_rfl) (fun _ _ _ h => h) (Or.inl ⟨by rfl, ?_⟩) (by assumption) ?_
      rotate_left
      · (intro w hSw; (try dsimp only at hSw); go_simp; (try with_reducible rfl))
      try simp only [Act.put, List.setIfInBounds_toArray, List.set_cons_zero, List.set_cons_succ]
      refine wpAnyH_take (i := 13) (v := ?_) rfl (by kernel_rfl) (by kernel_rfl) (by kernel_rfl) (fun _ _ _ h => h) (Or.inl ⟨by rfl, ?_⟩) (by assumption) ?_
      rotate_left
      · (intro w hSw; (try dsimp only at hSw); go_simp; (try with_reducible rfl))
      try simp only [Act.put, List.setIfInBounds_toArray, List.set_cons_zero, List.set_cons_succ]
      refine wpAnyH_take (i := 14) (v := ?_) rfl (by kernel_rfl) (by kernel_rfl) (by kernel_rfl) (fun _ _ _ h => h) (Or.inl ⟨by rfl, ?_⟩) (by assumption) ?_
      rotate_left
      · (intro w hSw; (try dsimp only at hSw); go_simp; (try with_reducible rfl))
      try simp only [Act.put, List.setIfInBounds_toArray, List.set_cons_zero, List.set_cons_succ]
      refine wpAnyH_take (i := 15) (v := ?_) rfl (by kernel_rfl) (by kernel_rfl) (by kernel_rfl) (fun _ _ _ h => h) (Or.inl ⟨by rfl, ?_⟩) (by assumption) ?_
      rotate_left
      · (intro w hSw; (try dsimp only at hSw); go_simp; (try with_reducible rfl))
      try simp only [Act.put, List.setIfInBounds_toArray, List.set_cons_zero, List.set_cons_succ]
      refine wpAnyH_take (i := 16) (v := ?_) rfl (by kernel_rfl) (by kernel_rfl) (by kernel_rfl) (fun _ _ _ h => h) (Or.inl ⟨by rfl, ?_⟩) (by assumption) ?_
      rotate_left
      · (intro w hSw; (try dsimp only at hSw); go_simp; (try with_reducible rfl))
      try simp only [Act.put, List.setIfInBounds_toArray, List.set_cons_zero, List.set_cons_succ]
      refine wpAnyH_ready (rs := [1, 17]) (by kernel_rfl) (by simp) ?_
      refine AllReadyH.cons rfl (fun K hK => ?_) (AllReadyH.cons rfl (fun K hK => ?_) AllReadyH.nil)
      · go_simp
        refine hK.out _ _ ?_ (fun hHeld => ?_)
        · (try dsimp only); (first | exact ⟨dd0, dd1, dd2, dd3⟩ | exact ⟨f0, f1, f2, f3⟩ | exact ⟨h0, h1', h2, h3⟩ | go_keep)
        clear hK K
        try simp only [Act.put, List.setIfInBounds_toArray, List.set_cons_zero, List.set_cons_succ]
        refine wpAnyH_ready (rs := [17]) (by kernel_rfl) (by simp) ?_
        refine AllReadyH.cons rfl (fun K hK => ?_) AllReadyH.nil
        go_simp
        refine hK.out _ _ ?_ (fun hHeld => ?_)
        · (try dsimp only); (first | exact ⟨dd0, dd1, dd2, dd3⟩ | exact ⟨f0, f1, f2, f3⟩ | exact ⟨h0, h1', h2, h3⟩ | go_keep)
        clear hK K
        try simp only [Act.put, List.setIfInBounds_toArray, List.set_cons_zero, List.set_cons_succ]
        refine wpAnyH_ready (rs := [18]) (by kernel_rfl) (by simp) ?_
        refine AllReadyH.cons rfl (fun K hK => ?_) AllReadyH.nil
        refine stepT_app rfl (.tmp 32) (.tmp 48) rfl w.heap.size _ _ _ _ rfl lt7.row _ ⟨(some ⟨g3, 0, none⟩, n1, d4), (some ⟨g6, 0, none⟩, n3, d6), x⟩ rfl (OC.read R7) (by omega) b7.size ?_; intro g8 c8 w8 q8 o8 k8; have om8 := OC.apart om7 lt7.row k8 (by decide); have fr8 := om8.free 0; obtain ⟨e8, e9⟩ := om8.lent2; have x8 := x7.same (Sm.of_grown k8 (World.block_lt_of_cell? _ _ x7.c0) XNE.out); obtain ⟨f0, f1, f2, f3⟩ := x8.head; simp only at f0 f1; have x9 := x8.same (w' := w8.setCell ⟨w.heap.size + 1, 0, none⟩ (.slice (some ⟨g8, 0, none⟩) (i + 1) c8)) (Sm.setCell w8 _ _ XNM.out); obtain ⟨h0, h1', h2, h3⟩ := x9.head; simp only at h0 h1'
        refine hK.out _ _ ?_ (fun hHeld => ?_)
        · (try dsimp only); (first | exact ⟨dd0, dd1, dd2, dd3⟩ | exact ⟨f0, f1, f2, f3⟩ | exact ⟨h0, h1', h2, h3⟩ | go_keep)
        clear hK K
        try simp only [Act.put, List.setIfInBounds_toArray, List.set_cons_zero, List.set_cons_succ]
        refine wpAnyH_take (i := 19) (v := ?_) rfl (by kernel_rfl) (by kernel_rfl) (by kernel_rfl) (fun _ _ _ h => h) (Or.inl ⟨by rfl, ?_⟩) (by assumption) ?_
        rotate_left
        · (intro w hSw; (try dsimp only at hSw); go_simp; (try with_reducible rfl))
        try simp only [Act.put, List.setIfInBounds_toArray, List.set_cons_zero, List.set_cons_succ]
        refine wpAnyH_ready (rs := [20]) (by kernel_rfl) (by simp) ?_
        refine AllReadyH.cons rfl (fun K hK => ?_) AllReadyH.nil
        go_simp
        refine hK.out _ _ ?_ (fun hHeld => ?_)
        · (try dsimp only); (first | exact ⟨dd0, dd1, dd2, dd3⟩ | exact ⟨f0, f1, f2, f3⟩ | exact ⟨h0, h1', h2, h3⟩ | go_keep)
        clear hK K
        try simp only [Act.put, List.setIfInBounds_toArray, List.set_cons_zero, List.set_cons_succ]
        refine wpAnyH_done (by kernel_rfl) ?_ _
        refine NoPanic.normal ?_
        have LQ := lend_step (l := l) KL.out VL.out lt7 HLO.out bw.size ORD3.out ORD2.out ORD.out o37 o67 oz7 om8 b7 k8 o8 q8
        generalize w8.setCell ⟨w.heap.size + 1, 0, none⟩ (.slice (some ⟨g8, 0, none⟩) (i + 1) c8) = w9 at LQ ⊢
        obtain ⟨g8', c8', zs8, q1, q2, q3, ⟨pz, qz, q4⟩, q5⟩ := LQ
        have HZ8 := hideIt (show its zs8 = l.take (i + 1) by rw [q4, its_append, HZ.out, ST.out]; rfl)
        clear q4
        go_wp2
        go_roundw
        case rel => exact ⟨i + 1, c8', some ⟨g8', 0, none⟩, zs8, by omega, by go_num, q1, q2, q3, HZ8, q5⟩
        case measure => simp [intOf]; omega
      · go_simp
        refine hK.out _ _ ?_ (fun hHeld => ?_)
        · (try dsimp only); (first | exact ⟨dd0, dd1, dd2, dd3⟩ | exact ⟨f0, f1, f2, f3⟩ | exact ⟨h0, h1', h2, h3⟩ | go_keep)
        clear hK K
        try simp only [Act.put, List.setIfInBounds_toArray, List.set_cons_zero, List.set_cons_succ]
        refine wpAnyH_ready (rs := [1]) (by kernel_rfl) (by simp) ?_
        refine AllReadyH.cons rfl (fun K hK => ?_) AllReadyH.nil
        go_simp
        refine hK.out _ _ ?_ (fun hHeld => ?_)
        · (try dsimp only); (first | exact ⟨dd0, dd1, dd2, dd3⟩ | exact ⟨f0, f1, f2, f3⟩ | exact ⟨h0, h1', h2, h3⟩ | go_keep)
        clear hK K
        try simp only [Act.put, List.setIfInBounds_toArray, List.set_cons_zero, List.set_cons_succ]
        refine wpAnyH_ready (rs := [18]) (by kernel_rfl) (by simp) ?_
        refine AllReadyH.cons rfl (fun K hK => ?_) AllReadyH.nil
        refine stepT_app rfl (.tmp 32) (.tmp 48) rfl w.heap.size _ _ _ _ rfl lt7.row _ ⟨(some ⟨g3, 0, none⟩, n1, d4), (some ⟨g6, 0, none⟩, n3, d6), x⟩ rfl (OC.read R7) (by omega) b7.size ?_; intro g8 c8 w8 q8 o8 k8; have om8 := OC.apart om7 lt7.row k8 (by decide); have fr8 := om8.free 0; obtain ⟨e8, e9⟩ := om8.lent2; have x8 := x7.same (Sm.of_grown k8 (World.block_lt_of_cell? _ _ x7.c0) XNE.out); obtain ⟨f0, f1, f2, f3⟩ := x8.head; simp only at f0 f1; have x9 := x8.same (w' := w8.setCell ⟨w.heap.size + 1, 0, none⟩ (.slice (some ⟨g8, 0, none⟩) (i + 1) c8)) (Sm.setCell w8 _ _ XNM.out); obtain ⟨h0, h1', h2, h3⟩ := x9.head; simp only at h0 h1'
        refine hK.out _ _ ?_ (fun hHeld => ?_)
        · (try dsimp only); (first | exact ⟨dd0, dd1, dd2, dd3⟩ | exact ⟨f0, f1, f2, f3⟩ | exact ⟨h0, h1', h2, h3⟩ | go_keep)
        clear hK K
        try simp only [Act.put, List.setIfInBounds_toArray, List.set_cons_zero, List.set_cons_succ]
        refine wpAnyH_take (i := 19) (v := ?_) rfl (by kernel_rfl) (by kernel_rfl) (by kernel_rfl) (fun _ _ _ h => h) (Or.inl ⟨by rfl, ?_⟩) (by assumption) ?_
        rotate_left
        · (intro w hSw; (try dsimp only at hSw); go_simp; (try with_reducible rfl))
        try simp only [Act.put, List.setIfInBounds_toArray, List.set_cons_zero, List.set_cons_succ]
        refine wpAnyH_ready (rs := [20]) (by kernel_rfl) (by simp) ?_
        refine AllReadyH.cons rfl (fun K hK => ?_) AllReadyH.nil
        go_simp
        refine hK.out _ _ ?_ (fun hHeld => ?_)
        · (try dsimp only); (first | exact ⟨dd0, dd1, dd2, dd3⟩ | exact ⟨f0, f1, f2, f3⟩ | exact ⟨h0, h1', h2, h3⟩ | go_keep)
        clear hK K
        try simp only [Act.put, List.setIfInBounds_toArray, List.set_cons_zero, List.set_cons_succ]
        refine wpAnyH_done (by kernel_rfl) ?_ _
        refine NoPanic.normal ?_
        have LQ := lend_step (l := l) KL.out VL.out lt7 HLO.out bw.size ORD3.out ORD2.out ORD.out o37 o67 oz7 om8 b7 k8 o8 q8
        generalize w8.setCell ⟨w.heap.size + 1, 0, none⟩ (.slice (some ⟨g8, 0, none⟩) (i + 1) c8) = w9 at LQ ⊢
        obtain ⟨g8', c8', zs8, q1, q2, q3, ⟨pz, qz, q4⟩, q5⟩ := LQ
        have HZ8 := hideIt (show its zs8 = l.take (i + 1) by rw [q4, its_append, HZ.out, ST.out]; rfl)
        clear q4
        go_wp2
        go_roundw
        case rel => exact ⟨i + 1, c8', some ⟨g8', 0, none⟩, zs8, by omega, by go_num, q1, q2, q3, HZ8, q5⟩
        case measure => simp [intOf]; omega
    · obtain rfl : n = i := by omega
      have hz := HZ.out
      rw [List.take_of_length_le (by rw [HL.out]; exact Nat.le_refl _)] at hz
      have HZ2 := hideIt hz
      obtain ⟨a0, a1⟩ := om.lent2
      have ba := below1 wr (.cells #[.slice none 0 0, .slice none 0 0, .int .i64 (-77), .int .i64 0] 48)
      have lt7 := lt.below ba
      have om7 := om.below ba
      have oz7 := oz.below ba
      have b7 := blw_step bw ba
      have R7 := it_cell wr ⟨(none, 0, 0), (none, 0, 0), ⟨[], [], -77, 0⟩⟩
      clear hz HZ ba
      go_wp2_with (with_reducible refine wpT_app rfl (.tmp 52) (.tmp 54) rfl w.heap.size _ _ _ _ rfl lt7.row _ ⟨(none, 0, 0), (none, 0, 0), ⟨[], [], -77, 0⟩⟩ rfl (OC.read R7) (by omega) b7.size ?_; intro g8 c8 w8 q8 o8 k8; have om8 := OC.apart om7 lt7.row k8 (by decide); have oz8 := OC.apart oz7 lt7.row k8 (by decide); have fr8 := om8.free 0; obtain ⟨e8, e9⟩ := om8.lent2; have fz0 := oz8.free 0; have fz1 := oz8.free 1; obtain ⟨u0, u1⟩ := oz8.lent2)
      have gs1 := grownBy_set w8 (w.heap.size + 1) 0 (.slice (some ⟨g8, 0, none⟩) (n + 1) c8)
      have lt8 : LX w8 w.heap.size g8 n c8 zs := ⟨lt7.cnt', o8, q8, fun z hz => ⟨(lt7.each z hz).1.apart lt7.row k8 (by decide), (lt7.each z hz).2.apart lt7.row k8 (by decide)⟩, lt7.inc⟩
      have b8 := GC.under lt7.row b7 k8 b7.size
      have lt9 := lt8.other gs1 om8 (by decide) (by decide)
      have oz9 := oz8.same (Sm.of_grown gs1 oz8.lt (by simp only [ne_eq, Option.some.injEq]; omega))
      have os := (oz9.set 0 (.slice (some ⟨g8, 0, none⟩) (n + 1) c8)).set 1 (.int .i64 (n : Int))
      have gs2 := (grownBy_set (w8.setCell ⟨w.heap.size + 1, 0, none⟩ (.slice (some ⟨g8, 0, none⟩) (n + 1) c8)) w.heap.size 0 (.slice (some ⟨g8, 0, none⟩) (n + 1) c8)).trans (grownBy_set _ w.heap.size 1 (.int .i64 (n : Int)))
      have ltA := lt9.other gs2 oz9 (by decide) (by decide)
      have b9 := blw_own b8 gs1 b8.size (Nat.le_succ _)
      have bA := blw_own b9 gs2 b9.size (Nat.le_refl _)
      refine ret_lent os rfl rfl rfl ?_
      exact ⟨g8, c8, rfl, zs, ltA, HZ2.out, bA⟩
end Go.Proofs.Ytieoleiokjoccaa
