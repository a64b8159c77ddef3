/- The walk of the law WireBroken. -/
import Derived.Test.YtnhmilpnekfhmaaVl
import Derived.Test.YtnhmilpnekfhmaaOpenO
namespace Go.Proofs.Ytnhmilpnekfhmaa
open Go.RowKit

section
variable {w : World} {ops : Array Oper} {rest : List Oper} {o : Oper} {a : Act} {Q : Exit → Act → World → Prop}
/-- append onto nothing, whatever comes. -/
theorem wpB_app_new (hgd : o.guard = none) (s x : Operand) (ho : o.op = .call { callee := .builtin .append, args := #[s, x], argTypes := #[22, 22] })
    (hs : a.eval s = .slice none 0 0) (A : Option Addr) (m k : Nat) (ys : List UInt8) (hx : a.eval x = .slice A m k) (hr : RB w A m k ys) (hb : m ≤ 140737488355328)
    (h : ∀ A' c' w', RB w' A' m c' ys → w.grownBy w' none → wpList Try.prog ops Q rest (a.put o.dst (.slice A' m c')) w') :
    wpList Try.prog ops Q (o :: rest) a w := by
  refine wpB_app_nil hgd s x ho hs A m k ys hx hr hb (fun h0 => ?_) (fun g c' w' _ _ h3 h4 => h _ c' w' h3.read h4)
  have hy : ys = [] := List.eq_nil_of_length_eq_zero (by rw [hr.len, h0])
  subst hy
  subst h0
  exact h none 0 w (RB.nil w) (World.grownBy.refl _ _)
end
theorem v_least (xs : List UInt8) : vS (128 :: 0 :: xs) 0 0 = (0, 0, 11) := by
  have h : lead 10 (128 :: 0 :: xs) = 1 := by simp [lead]
  unfold vS vOut
  rw [if_pos rfl, List.drop_zero, h]
  simp
theorem v_wide (xs : List UInt8) : vS (255 :: 255 :: 255 :: 255 :: 255 :: 255 :: 255 :: 255 :: 255 :: 2 :: xs) 0 0 = (0, 0, 12) := by
  have h : lead 10 (255 :: 255 :: 255 :: 255 :: 255 :: 255 :: 255 :: 255 :: 255 :: 2 :: xs) = 9 := by simp [lead]
  unfold vS vOut
  rw [if_pos rfl, List.drop_zero, h]
  simp
theorem b_more (xs : List UInt8) (n : Nat) (h : xs.length = n) : bytesS xs 0 0 ((n : Int) + 1) = ([], 0, 10) := by
  unfold bytesS
  rw [if_neg (by rw [h]; omega)]; rfl
theorem b_less (xs : List UInt8) : bytesS xs 0 0 (-1) = ([], 0, 10) := by
  unfold bytesS
  rw [if_neg (by omega)]; rfl

set_option maxRecDepth 100000 in
set_option maxHeartbeats 16000000 in
theorem WireBroken_walk (A1 : Option Addr) (n1 c1 : Nat) (xs : List UInt8) (how : Int) (A3 : Option Addr) (n3 c3 : Nat) (ops : List (Int × Int × Bool)) (w : World)
    (h1 : RB w A1 n1 c1 xs) (_y1 : n1 ≤ 140737488351232) (_yh : -9223372036854775808 ≤ how ∧ how ≤ 9223372036854775807) (h3 : OpsAt w A3 n3 c3 ops) :
    Calls Try.prog 9 #[.slice A1 n1 c1, .int .i64 how, .slice A3 n3 c3] w fun e w' => e = .returned (.bool true) ∧ Below w.heap.size w w' := by
  by_cases hbig : 65536 < n1
  · have hbig' : (65536 : Int) < n1 := by omega
    go_enter Try.func9, Try.ntmps9
    go_wp2_with (go_at_call 10; refine (first_calls _).mono ?_; rintro e w1 ⟨rfl, b1⟩)
    go_ret
    exact ⟨rfl, b1⟩
  have hs1 : (n1 : Int) ≤ 65536 := by omega
  have hN1 : n1 ≤ 65536 := by omega
  obtain ⟨r0, q, p1, p2, p3, p4, p5⟩ := place how 4 (by decide)
  have p1 : Int.tmod how 4 = r0 := p1
  have p2 : -4 < r0 := p2
  have p3 : r0 < 4 := p3
  have p4 : r0 % 4 = (q : Int) := p4
  have hc : q = 0 ∨ q = 1 ∨ q = 2 ∨ q = 3 := by omega
  have m3 : n3 ≤ 9223372036854775807 := by have h1 := h3.le; have h2 := h3.mx; rw [maxLen_is] at h2; omega
  have z0 : I64 0 := by unfold I64; omega
  have L1 := hideIt h1.len
  clear hbig _yh _y1 p5
  go_enter Try.func9, Try.ntmps9
  go_upto_region 4 with (go_at_call 10; refine (first_calls _).mono ?_; rintro e w1 ⟨rfl, b1⟩)
  have g1 := h1.below b1
  rcases hc with rfl | rfl | rfl | rfl
  · go_upto_region 14 with (with_reducible refine wpB_app_new rfl (.tmp 38) (.tmp 39) rfl rfl _ _ _ _ rfl g1 (by omega) ?_; intro A2 c2 w2 o2 k2)
    have b2 := b1.trans (below_of_grown k2 b1.size (by simp))
    clear k2 b1 g1
    go_upto_region 15 with (go_at_call 14; refine (NewReader_calls _ _ _ _ _ o2 (by omega)).mono ?_; rintro e w3 ⟨r, rfl, s3, d3, y3⟩)
    have b3 := b2.trans (y3.mono b2.size)
    have rlo := Nat.le_trans b2.size s3
    clear y3 b2 s3 o2
    have G := Bytes_any r (xs) 0 0 ((n1 : Int) + 1) w3 d3 (by omega)
    rw [b_more xs n1 L1.out] at G
    simp only at G
    go_upto_region 23 with (go_at_call 27; refine G.mono ?_; rintro en w4 ⟨gb, m, rfl, s4, o4, dr4, g4⟩)
    have b4 : Below w.heap.size w w4 := b3.trans (below_of_grown g4 b3.size (by intro k hk; cases hk; exact rlo))
    clear G s4 o4 g4 b3 d3
    have R : Rd w4 r (xs) 0 10 := dr4
    clear dr4
    go_wp2
    go_loopw [11] (fun ii wr => ∃ (i : Nat), i ≤ n3 ∧ i ≤ 2000 ∧ ii = .int .i64 (i : Int) ∧ Rd wr r (xs) 0 10 ∧ Below w.heap.size w wr)
      (fun ii _ => 2000 - (intOf ii).toNat)
    case atStart => exact ⟨0, by omega, by omega, rfl, R, b4⟩
    case round =>
      clear R b4
      obtain ⟨i, hi, hi2, rfl, R, b⟩ := hrel
      by_cases hend : i < n3 ∧ i < 2000
      · obtain ⟨hlt, h20⟩ := hend
        obtain ⟨ad, K, N, sec, rfl, _, c0, c1', c2', hN⟩ := (h3.below b).cell i hlt
        have d1 : wr.cell? ⟨(ad.add (i * 3)).block, (ad.add (i * 3)).off + 1, none⟩ = some (.int .i64 N) := by simpa only [Addr.add_succ'] using c1'
        have d2 : wr.cell? ⟨(ad.add (i * 3)).block, (ad.add (i * 3)).off + 2, none⟩ = some (.bool sec) := by simpa only [Addr.add_succ'] using c2'
        have hN : I64 N := hN
        clear c1' c2'
        have j1 : (i : Int) < (n3 : Int) := by omega
        have j2 : (i : Int) < 2000 := by omega
        have ba := below1 wr (.cells #[.int .i64 K, .int .i64 N, .bool sec] 34)
        have Ra := R.below ba
        have bb := b.trans (ba.mono b.size)
        have i0 : (wr.alloc (.cells #[.int .i64 K, .int .i64 N, .bool sec] 34)).cell? ⟨wr.heap.size, 0, none⟩ = some (.int .i64 K) := by simp
        have i1 : (wr.alloc (.cells #[.int .i64 K, .int .i64 N, .bool sec] 34)).cell? ⟨wr.heap.size, 1, none⟩ = some (.int .i64 N) := by simp
        clear ba R b
        go_upto_region 27 with fail
        generalize wr.alloc (.cells #[.int .i64 K, .int .i64 N, .bool sec] 34) = w5 at *
        have rw5 : w.heap.size ≤ w5.heap.size := bb.size
        by_cases hK : K = 5
        · subst hK
          have G := Bytes_any r (xs) 0 10 N w5 Ra hN
          rw [bytesS_broken _ _ _ _ (by decide)] at G
          simp only at G
          go_upto_region 29 with (go_at_call 27; refine G.mono ?_; rintro en w6 ⟨gb, m, rfl, s6, o6, r6, g6⟩)
          obtain rfl : m = 0 := o6.len.symm
          have b6 : Below w.heap.size w w6 := bb.trans (below_of_grown g6 rw5 (by intro k hk; cases hk; exact rlo))
          clear G o6 s6 g6 Ra bb i0 i1
          have E := Err_calls r (xs) 0 10 w6 r6
          go_upto_region 33 with (go_at_call 22; refine E.mono ?_; rintro en w7 ⟨rfl, j7, rfl⟩)
          have r7 := r6.drewN j7
          have b7 := below_drewN b6 j7
          clear E r6 b6
          generalize w6.drewN j7 = w7 at *
          have L := Left_calls r (xs) 0 10 w7 r7
          rw [leftS_broken _ _ _ (by decide)] at L
          go_wp2_with (first
            | (go_at_call 23; refine (num_calls _ _).mono ?_; rintro en wx ⟨rfl, rfl⟩)
            | (go_at_call 24; refine L.mono ?_; rintro en w8 ⟨rfl, j8, rfl⟩))
          go_roundw
          case rel => exact ⟨i + 1, by omega, by omega, by go_num, r7.drewN j8, below_drewN b7 j8⟩
          case measure => simp [intOf]; omega
        · have hK' : (K == 5) = false := beq_eq_false_iff_ne.2 hK
          have W := wide_calls K w5
          have f5 := wide_five K
          generalize wideS K = u at W f5
          have G := get_calls r (xs) 0 10 u w5 Ra f5
          rw [getS_broken _ _ _ _ (by decide)] at G
          simp only at G
          go_upto_region 31 with (first
            | (go_at_call 21; refine G.mono ?_; rintro en w6 ⟨rfl, r6, g6⟩)
            | (go_at_call 20; refine W.mono ?_; rintro en wx ⟨rfl, rfl⟩))
          have b6 : Below w.heap.size w w6 := bb.trans (below_of_grown g6 rw5 (by intro k hk; cases hk; exact rlo))
          clear G W f5 g6 Ra bb i0 i1
          have E := Err_calls r (xs) 0 10 w6 r6
          go_upto_region 33 with (go_at_call 22; refine E.mono ?_; rintro en w7 ⟨rfl, j7, rfl⟩)
          have r7 := r6.drewN j7
          have b7 := below_drewN b6 j7
          clear E r6 b6
          generalize w6.drewN j7 = w7 at *
          have L := Left_calls r (xs) 0 10 w7 r7
          rw [leftS_broken _ _ _ (by decide)] at L
          go_wp2_with (first
            | (go_at_call 23; refine (num_calls _ _).mono ?_; rintro en wx ⟨rfl, rfl⟩)
            | (go_at_call 24; refine L.mono ?_; rintro en w8 ⟨rfl, j8, rfl⟩))
          go_roundw
          case rel => exact ⟨i + 1, by omega, by omega, by go_num, r7.drewN j8, below_drewN b7 j8⟩
          case measure => simp [intOf]; omega
      · have E := Err_calls r (xs) 0 10 wr R
        rcases (show (i = 2000 ∧ (2000 : Int) < (n3 : Int)) ∨ i = n3 by omega) with ⟨rfl, j1⟩ | rfl
        all_goals
          clear hend
          go_upto_region 36 with (go_at_call 22; refine E.mono ?_; rintro en w7 ⟨rfl, j7, rfl⟩)
          have r7 := R.drewN j7
          have b7 := below_drewN b j7
          clear E R b
          generalize wr.drewN j7 = w7 at *
          have L := Left_calls r (xs) 0 10 w7 r7
          rw [leftS_broken _ _ _ (by decide)] at L
          go_wp2_with (first
            | (go_at_call 23; refine (num_calls _ _).mono ?_; rintro en wx ⟨rfl, rfl⟩)
            | (go_at_call 24; refine L.mono ?_; rintro en w8 ⟨rfl, j8, rfl⟩))
          go_ret
          exact ⟨rfl, below_drewN b7 j8⟩
  · go_upto_region 13 with fail
    have ol : OB (w1.alloc (.cells #[.int .u8 128, .int .u8 0] 5)) w1.heap.size 2 2 [128, 0] := RB.lit w1 [128, 0] 2 rfl (by rw [maxLen_is]; omega)
    have ba := below1 w1 (.cells #[.int .u8 128, .int .u8 0] 5)
    have g1 := g1.below ba
    have bb := b1.trans (ba.mono b1.size)
    have lw : w.heap.size ≤ w1.heap.size := b1.size
    generalize w1.alloc (.cells #[.int .u8 128, .int .u8 0] 5) = w1b at *
    clear ba b1
    go_upto_region 14 with (with_reducible refine wpB_app rfl (.tmp 38) (.tmp 39) rfl _ _ _ _ rfl ol _ _ _ _ rfl g1 (2 + n1) rfl (by omega) ?_; intro g2 c2 w2 _ _ o2 k2)
    have b2 := bb.trans (below_of_grown k2 bb.size (by intro k hk; cases hk; exact lw))
    clear k2 bb g1
    go_upto_region 15 with (go_at_call 14; refine (NewReader_calls _ _ _ _ _ o2.read (by omega)).mono ?_; rintro e w3 ⟨r, rfl, s3, d3, y3⟩)
    have b3 := b2.trans (y3.mono b2.size)
    have rlo := Nat.le_trans b2.size s3
    clear y3 b2 s3 o2
    have d3 : Rd w3 r (128 :: 0 :: xs) 0 0 := d3
    have G := V_any r (128 :: 0 :: xs) 0 0 w3 d3
    rw [v_least xs] at G
    simp only at G
    go_upto_region 23 with (go_at_call 25; refine G.mono ?_; rintro en w4 ⟨rfl, dr4, g4⟩)
    have b4 : Below w.heap.size w w4 := b3.trans (below_of_grown g4 b3.size (by intro k hk; cases hk; exact rlo))
    clear G g4 b3 d3
    have R : Rd w4 r (128 :: 0 :: xs) 0 11 := dr4
    clear dr4
    go_wp2
    go_loopw [11] (fun ii wr => ∃ (i : Nat), i ≤ n3 ∧ i ≤ 2000 ∧ ii = .int .i64 (i : Int) ∧ Rd wr r (128 :: 0 :: xs) 0 11 ∧ Below w.heap.size w wr)
      (fun ii _ => 2000 - (intOf ii).toNat)
    case atStart => exact ⟨0, by omega, by omega, rfl, R, b4⟩
    case round =>
      clear R b4
      obtain ⟨i, hi, hi2, rfl, R, b⟩ := hrel
      by_cases hend : i < n3 ∧ i < 2000
      · obtain ⟨hlt, h20⟩ := hend
        obtain ⟨ad, K, N, sec, rfl, _, c0, c1', c2', hN⟩ := (h3.below b).cell i hlt
        have d1 : wr.cell? ⟨(ad.add (i * 3)).block, (ad.add (i * 3)).off + 1, none⟩ = some (.int .i64 N) := by simpa only [Addr.add_succ'] using c1'
        have d2 : wr.cell? ⟨(ad.add (i * 3)).block, (ad.add (i * 3)).off + 2, none⟩ = some (.bool sec) := by simpa only [Addr.add_succ'] using c2'
        have hN : I64 N := hN
        clear c1' c2'
        have j1 : (i : Int) < (n3 : Int) := by omega
        have j2 : (i : Int) < 2000 := by omega
        have ba := below1 wr (.cells #[.int .i64 K, .int .i64 N, .bool sec] 34)
        have Ra := R.below ba
        have bb := b.trans (ba.mono b.size)
        have i0 : (wr.alloc (.cells #[.int .i64 K, .int .i64 N, .bool sec] 34)).cell? ⟨wr.heap.size, 0, none⟩ = some (.int .i64 K) := by simp
        have i1 : (wr.alloc (.cells #[.int .i64 K, .int .i64 N, .bool sec] 34)).cell? ⟨wr.heap.size, 1, none⟩ = some (.int .i64 N) := by simp
        clear ba R b
        go_upto_region 27 with fail
        generalize wr.alloc (.cells #[.int .i64 K, .int .i64 N, .bool sec] 34) = w5 at *
        have rw5 : w.heap.size ≤ w5.heap.size := bb.size
        by_cases hK : K = 5
        · subst hK
          have G := Bytes_any r (128 :: 0 :: xs) 0 11 N w5 Ra hN
          rw [bytesS_broken _ _ _ _ (by decide)] at G
          simp only at G
          go_upto_region 29 with (go_at_call 27; refine G.mono ?_; rintro en w6 ⟨gb, m, rfl, s6, o6, r6, g6⟩)
          obtain rfl : m = 0 := o6.len.symm
          have b6 : Below w.heap.size w w6 := bb.trans (below_of_grown g6 rw5 (by intro k hk; cases hk; exact rlo))
          clear G o6 s6 g6 Ra bb i0 i1
          have E := Err_calls r (128 :: 0 :: xs) 0 11 w6 r6
          go_upto_region 33 with (go_at_call 22; refine E.mono ?_; rintro en w7 ⟨rfl, j7, rfl⟩)
          have r7 := r6.drewN j7
          have b7 := below_drewN b6 j7
          clear E r6 b6
          generalize w6.drewN j7 = w7 at *
          have L := Left_calls r (128 :: 0 :: xs) 0 11 w7 r7
          rw [leftS_broken _ _ _ (by decide)] at L
          go_wp2_with (first
            | (go_at_call 23; refine (num_calls _ _).mono ?_; rintro en wx ⟨rfl, rfl⟩)
            | (go_at_call 24; refine L.mono ?_; rintro en w8 ⟨rfl, j8, rfl⟩))
          go_roundw
          case rel => exact ⟨i + 1, by omega, by omega, by go_num, r7.drewN j8, below_drewN b7 j8⟩
          case measure => simp [intOf]; omega
        · have hK' : (K == 5) = false := beq_eq_false_iff_ne.2 hK
          have W := wide_calls K w5
          have f5 := wide_five K
          generalize wideS K = u at W f5
          have G := get_calls r (128 :: 0 :: xs) 0 11 u w5 Ra f5
          rw [getS_broken _ _ _ _ (by decide)] at G
          simp only at G
          go_upto_region 31 with (first
            | (go_at_call 21; refine G.mono ?_; rintro en w6 ⟨rfl, r6, g6⟩)
            | (go_at_call 20; refine W.mono ?_; rintro en wx ⟨rfl, rfl⟩))
          have b6 : Below w.heap.size w w6 := bb.trans (below_of_grown g6 rw5 (by intro k hk; cases hk; exact rlo))
          clear G W f5 g6 Ra bb i0 i1
          have E := Err_calls r (128 :: 0 :: xs) 0 11 w6 r6
          go_upto_region 33 with (go_at_call 22; refine E.mono ?_; rintro en w7 ⟨rfl, j7, rfl⟩)
          have r7 := r6.drewN j7
          have b7 := below_drewN b6 j7
          clear E r6 b6
          generalize w6.drewN j7 = w7 at *
          have L := Left_calls r (128 :: 0 :: xs) 0 11 w7 r7
          rw [leftS_broken _ _ _ (by decide)] at L
          go_wp2_with (first
            | (go_at_call 23; refine (num_calls _ _).mono ?_; rintro en wx ⟨rfl, rfl⟩)
            | (go_at_call 24; refine L.mono ?_; rintro en w8 ⟨rfl, j8, rfl⟩))
          go_roundw
          case rel => exact ⟨i + 1, by omega, by omega, by go_num, r7.drewN j8, below_drewN b7 j8⟩
          case measure => simp [intOf]; omega
      · have E := Err_calls r (128 :: 0 :: xs) 0 11 wr R
        rcases (show (i = 2000 ∧ (2000 : Int) < (n3 : Int)) ∨ i = n3 by omega) with ⟨rfl, j1⟩ | rfl
        all_goals
          clear hend
          go_upto_region 36 with (go_at_call 22; refine E.mono ?_; rintro en w7 ⟨rfl, j7, rfl⟩)
          have r7 := R.drewN j7
          have b7 := below_drewN b j7
          clear E R b
          generalize wr.drewN j7 = w7 at *
          have L := Left_calls r (128 :: 0 :: xs) 0 11 w7 r7
          rw [leftS_broken _ _ _ (by decide)] at L
          go_wp2_with (first
            | (go_at_call 23; refine (num_calls _ _).mono ?_; rintro en wx ⟨rfl, rfl⟩)
            | (go_at_call 24; refine L.mono ?_; rintro en w8 ⟨rfl, j8, rfl⟩))
          go_ret
          exact ⟨rfl, below_drewN b7 j8⟩
  · go_upto_region 13 with fail
    have ol : OB (w1.alloc (.cells #[.int .u8 255, .int .u8 255, .int .u8 255, .int .u8 255, .int .u8 255, .int .u8 255, .int .u8 255, .int .u8 255, .int .u8 255, .int .u8 2] 5)) w1.heap.size 10 10 [255, 255, 255, 255, 255, 255, 255, 255, 255, 2] := RB.lit w1 [255, 255, 255, 255, 255, 255, 255, 255, 255, 2] 10 rfl (by rw [maxLen_is]; omega)
    have ba := below1 w1 (.cells #[.int .u8 255, .int .u8 255, .int .u8 255, .int .u8 255, .int .u8 255, .int .u8 255, .int .u8 255, .int .u8 255, .int .u8 255, .int .u8 2] 5)
    have g1 := g1.below ba
    have bb := b1.trans (ba.mono b1.size)
    have lw : w.heap.size ≤ w1.heap.size := b1.size
    generalize w1.alloc (.cells #[.int .u8 255, .int .u8 255, .int .u8 255, .int .u8 255, .int .u8 255, .int .u8 255, .int .u8 255, .int .u8 255, .int .u8 255, .int .u8 2] 5) = w1b at *
    clear ba b1
    go_upto_region 14 with (with_reducible refine wpB_app rfl (.tmp 38) (.tmp 39) rfl _ _ _ _ rfl ol _ _ _ _ rfl g1 (10 + n1) rfl (by omega) ?_; intro g2 c2 w2 _ _ o2 k2)
    have b2 := bb.trans (below_of_grown k2 bb.size (by intro k hk; cases hk; exact lw))
    clear k2 bb g1
    go_upto_region 15 with (go_at_call 14; refine (NewReader_calls _ _ _ _ _ o2.read (by omega)).mono ?_; rintro e w3 ⟨r, rfl, s3, d3, y3⟩)
    have b3 := b2.trans (y3.mono b2.size)
    have rlo := Nat.le_trans b2.size s3
    clear y3 b2 s3 o2
    have d3 : Rd w3 r (255 :: 255 :: 255 :: 255 :: 255 :: 255 :: 255 :: 255 :: 255 :: 2 :: xs) 0 0 := d3
    have G := V_any r (255 :: 255 :: 255 :: 255 :: 255 :: 255 :: 255 :: 255 :: 255 :: 2 :: xs) 0 0 w3 d3
    rw [v_wide xs] at G
    simp only at G
    go_upto_region 23 with (go_at_call 25; refine G.mono ?_; rintro en w4 ⟨rfl, dr4, g4⟩)
    have b4 : Below w.heap.size w w4 := b3.trans (below_of_grown g4 b3.size (by intro k hk; cases hk; exact rlo))
    clear G g4 b3 d3
    have R : Rd w4 r (255 :: 255 :: 255 :: 255 :: 255 :: 255 :: 255 :: 255 :: 255 :: 2 :: xs) 0 12 := dr4
    clear dr4
    go_wp2
    go_loopw [11] (fun ii wr => ∃ (i : Nat), i ≤ n3 ∧ i ≤ 2000 ∧ ii = .int .i64 (i : Int) ∧ Rd wr r (255 :: 255 :: 255 :: 255 :: 255 :: 255 :: 255 :: 255 :: 255 :: 2 :: xs) 0 12 ∧ Below w.heap.size w wr)
      (fun ii _ => 2000 - (intOf ii).toNat)
    case atStart => exact ⟨0, by omega, by omega, rfl, R, b4⟩
    case round =>
      clear R b4
      obtain ⟨i, hi, hi2, rfl, R, b⟩ := hrel
      by_cases hend : i < n3 ∧ i < 2000
      · obtain ⟨hlt, h20⟩ := hend
        obtain ⟨ad, K, N, sec, rfl, _, c0, c1', c2', hN⟩ := (h3.below b).cell i hlt
        have d1 : wr.cell? ⟨(ad.add (i * 3)).block, (ad.add (i * 3)).off + 1, none⟩ = some (.int .i64 N) := by simpa only [Addr.add_succ'] using c1'
        have d2 : wr.cell? ⟨(ad.add (i * 3)).block, (ad.add (i * 3)).off + 2, none⟩ = some (.bool sec) := by simpa only [Addr.add_succ'] using c2'
        have hN : I64 N := hN
        clear c1' c2'
        have j1 : (i : Int) < (n3 : Int) := by omega
        have j2 : (i : Int) < 2000 := by omega
        have ba := below1 wr (.cells #[.int .i64 K, .int .i64 N, .bool sec] 34)
        have Ra := R.below ba
        have bb := b.trans (ba.mono b.size)
        have i0 : (wr.alloc (.cells #[.int .i64 K, .int .i64 N, .bool sec] 34)).cell? ⟨wr.heap.size, 0, none⟩ = some (.int .i64 K) := by simp
        have i1 : (wr.alloc (.cells #[.int .i64 K, .int .i64 N, .bool sec] 34)).cell? ⟨wr.heap.size, 1, none⟩ = some (.int .i64 N) := by simp
        clear ba R b
        go_upto_region 27 with fail
        generalize wr.alloc (.cells #[.int .i64 K, .int .i64 N, .bool sec] 34) = w5 at *
        have rw5 : w.heap.size ≤ w5.heap.size := bb.size
        by_cases hK : K = 5
        · subst hK
          have G := Bytes_any r (255 :: 255 :: 255 :: 255 :: 255 :: 255 :: 255 :: 255 :: 255 :: 2 :: xs) 0 12 N w5 Ra hN
          rw [bytesS_broken _ _ _ _ (by decide)] at G
          simp only at G
          go_upto_region 29 with (go_at_call 27; refine G.mono ?_; rintro en w6 ⟨gb, m, rfl, s6, o6, r6, g6⟩)
          obtain rfl : m = 0 := o6.len.symm
          have b6 : Below w.heap.size w w6 := bb.trans (below_of_grown g6 rw5 (by intro k hk; cases hk; exact rlo))
          clear G o6 s6 g6 Ra bb i0 i1
          have E := Err_calls r (255 :: 255 :: 255 :: 255 :: 255 :: 255 :: 255 :: 255 :: 255 :: 2 :: xs) 0 12 w6 r6
          go_upto_region 33 with (go_at_call 22; refine E.mono ?_; rintro en w7 ⟨rfl, j7, rfl⟩)
          have r7 := r6.drewN j7
          have b7 := below_drewN b6 j7
          clear E r6 b6
          generalize w6.drewN j7 = w7 at *
          have L := Left_calls r (255 :: 255 :: 255 :: 255 :: 255 :: 255 :: 255 :: 255 :: 255 :: 2 :: xs) 0 12 w7 r7
          rw [leftS_broken _ _ _ (by decide)] at L
          go_wp2_with (first
            | (go_at_call 23; refine (num_calls _ _).mono ?_; rintro en wx ⟨rfl, rfl⟩)
            | (go_at_call 24; refine L.mono ?_; rintro en w8 ⟨rfl, j8, rfl⟩))
          go_roundw
          case rel => exact ⟨i + 1, by omega, by omega, by go_num, r7.drewN j8, below_drewN b7 j8⟩
          case measure => simp [intOf]; omega
        · have hK' : (K == 5) = false := beq_eq_false_iff_ne.2 hK
          have W := wide_calls K w5
          have f5 := wide_five K
          generalize wideS K = u at W f5
          have G := get_calls r (255 :: 255 :: 255 :: 255 :: 255 :: 255 :: 255 :: 255 :: 255 :: 2 :: xs) 0 12 u w5 Ra f5
          rw [getS_broken _ _ _ _ (by decide)] at G
          simp only at G
          go_upto_region 31 with (first
            | (go_at_call 21; refine G.mono ?_; rintro en w6 ⟨rfl, r6, g6⟩)
            | (go_at_call 20; refine W.mono ?_; rintro en wx ⟨rfl, rfl⟩))
          have b6 : Below w.heap.size w w6 := bb.trans (below_of_grown g6 rw5 (by intro k hk; cases hk; exact rlo))
          clear G W f5 g6 Ra bb i0 i1
          have E := Err_calls r (255 :: 255 :: 255 :: 255 :: 255 :: 255 :: 255 :: 255 :: 255 :: 2 :: xs) 0 12 w6 r6
          go_upto_region 33 with (go_at_call 22; refine E.mono ?_; rintro en w7 ⟨rfl, j7, rfl⟩)
          have r7 := r6.drewN j7
          have b7 := below_drewN b6 j7
          clear E r6 b6
          generalize w6.drewN j7 = w7 at *
          have L := Left_calls r (255 :: 255 :: 255 :: 255 :: 255 :: 255 :: 255 :: 255 :: 255 :: 2 :: xs) 0 12 w7 r7
          rw [leftS_broken _ _ _ (by decide)] at L
          go_wp2_with (first
            | (go_at_call 23; refine (num_calls _ _).mono ?_; rintro en wx ⟨rfl, rfl⟩)
            | (go_at_call 24; refine L.mono ?_; rintro en w8 ⟨rfl, j8, rfl⟩))
          go_roundw
          case rel => exact ⟨i + 1, by omega, by omega, by go_num, r7.drewN j8, below_drewN b7 j8⟩
          case measure => simp [intOf]; omega
      · have E := Err_calls r (255 :: 255 :: 255 :: 255 :: 255 :: 255 :: 255 :: 255 :: 255 :: 2 :: xs) 0 12 wr R
        rcases (show (i = 2000 ∧ (2000 : Int) < (n3 : Int)) ∨ i = n3 by omega) with ⟨rfl, j1⟩ | rfl
        all_goals
          clear hend
          go_upto_region 36 with (go_at_call 22; refine E.mono ?_; rintro en w7 ⟨rfl, j7, rfl⟩)
          have r7 := R.drewN j7
          have b7 := below_drewN b j7
          clear E R b
          generalize wr.drewN j7 = w7 at *
          have L := Left_calls r (255 :: 255 :: 255 :: 255 :: 255 :: 255 :: 255 :: 255 :: 255 :: 2 :: xs) 0 12 w7 r7
          rw [leftS_broken _ _ _ (by decide)] at L
          go_wp2_with (first
            | (go_at_call 23; refine (num_calls _ _).mono ?_; rintro en wx ⟨rfl, rfl⟩)
            | (go_at_call 24; refine L.mono ?_; rintro en w8 ⟨rfl, j8, rfl⟩))
          go_ret
          exact ⟨rfl, below_drewN b7 j8⟩
  · go_upto_region 14 with (with_reducible refine wpB_app_new rfl (.tmp 38) (.tmp 39) rfl rfl _ _ _ _ rfl g1 (by omega) ?_; intro A2 c2 w2 o2 k2)
    have b2 := b1.trans (below_of_grown k2 b1.size (by simp))
    clear k2 b1 g1
    go_upto_region 15 with (go_at_call 14; refine (NewReader_calls _ _ _ _ _ o2 (by omega)).mono ?_; rintro e w3 ⟨r, rfl, s3, d3, y3⟩)
    have b3 := b2.trans (y3.mono b2.size)
    have rlo := Nat.le_trans b2.size s3
    clear y3 b2 s3 o2
    have G := Bytes_any r (xs) 0 0 (-1) w3 d3 (by omega)
    rw [b_less xs] at G
    simp only at G
    go_upto_region 23 with (go_at_call 27; refine G.mono ?_; rintro en w4 ⟨gb, m, rfl, s4, o4, dr4, g4⟩)
    have b4 : Below w.heap.size w w4 := b3.trans (below_of_grown g4 b3.size (by intro k hk; cases hk; exact rlo))
    clear G s4 o4 g4 b3 d3
    have R : Rd w4 r (xs) 0 10 := dr4
    clear dr4
    go_wp2
    go_loopw [11] (fun ii wr => ∃ (i : Nat), i ≤ n3 ∧ i ≤ 2000 ∧ ii = .int .i64 (i : Int) ∧ Rd wr r (xs) 0 10 ∧ Below w.heap.size w wr)
      (fun ii _ => 2000 - (intOf ii).toNat)
    case atStart => exact ⟨0, by omega, by omega, rfl, R, b4⟩
    case round =>
      clear R b4
      obtain ⟨i, hi, hi2, rfl, R, b⟩ := hrel
      by_cases hend : i < n3 ∧ i < 2000
      · obtain ⟨hlt, h20⟩ := hend
        obtain ⟨ad, K, N, sec, rfl, _, c0, c1', c2', hN⟩ := (h3.below b).cell i hlt
        have d1 : wr.cell? ⟨(ad.add (i * 3)).block, (ad.add (i * 3)).off + 1, none⟩ = some (.int .i64 N) := by simpa only [Addr.add_succ'] using c1'
        have d2 : wr.cell? ⟨(ad.add (i * 3)).block, (ad.add (i * 3)).off + 2, none⟩ = some (.bool sec) := by simpa only [Addr.add_succ'] using c2'
        have hN : I64 N := hN
        clear c1' c2'
        have j1 : (i : Int) < (n3 : Int) := by omega
        have j2 : (i : Int) < 2000 := by omega
        have ba := below1 wr (.cells #[.int .i64 K, .int .i64 N, .bool sec] 34)
        have Ra := R.below ba
        have bb := b.trans (ba.mono b.size)
        have i0 : (wr.alloc (.cells #[.int .i64 K, .int .i64 N, .bool sec] 34)).cell? ⟨wr.heap.size, 0, none⟩ = some (.int .i64 K) := by simp
        have i1 : (wr.alloc (.cells #[.int .i64 K, .int .i64 N, .bool sec] 34)).cell? ⟨wr.heap.size, 1, none⟩ = some (.int .i64 N) := by simp
        clear ba R b
        go_upto_region 27 with fail
        generalize wr.alloc (.cells #[.int .i64 K, .int .i64 N, .bool sec] 34) = w5 at *
        have rw5 : w.heap.size ≤ w5.heap.size := bb.size
        by_cases hK : K = 5
        · subst hK
          have G := Bytes_any r (xs) 0 10 N w5 Ra hN
          rw [bytesS_broken _ _ _ _ (by decide)] at G
          simp only at G
          go_upto_region 29 with (go_at_call 27; refine G.mono ?_; rintro en w6 ⟨gb, m, rfl, s6, o6, r6, g6⟩)
          obtain rfl : m = 0 := o6.len.symm
          have b6 : Below w.heap.size w w6 := bb.trans (below_of_grown g6 rw5 (by intro k hk; cases hk; exact rlo))
          clear G o6 s6 g6 Ra bb i0 i1
          have E := Err_calls r (xs) 0 10 w6 r6
          go_upto_region 33 with (go_at_call 22; refine E.mono ?_; rintro en w7 ⟨rfl, j7, rfl⟩)
          have r7 := r6.drewN j7
          have b7 := below_drewN b6 j7
          clear E r6 b6
          generalize w6.drewN j7 = w7 at *
          have L := Left_calls r (xs) 0 10 w7 r7
          rw [leftS_broken _ _ _ (by decide)] at L
          go_wp2_with (first
            | (go_at_call 23; refine (num_calls _ _).mono ?_; rintro en wx ⟨rfl, rfl⟩)
            | (go_at_call 24; refine L.mono ?_; rintro en w8 ⟨rfl, j8, rfl⟩))
          go_roundw
          case rel => exact ⟨i + 1, by omega, by omega, by go_num, r7.drewN j8, below_drewN b7 j8⟩
          case measure => simp [intOf]; omega
        · have hK' : (K == 5) = false := beq_eq_false_iff_ne.2 hK
          have W := wide_calls K w5
          have f5 := wide_five K
          generalize wideS K = u at W f5
          have G := get_calls r (xs) 0 10 u w5 Ra f5
          rw [getS_broken _ _ _ _ (by decide)] at G
          simp only at G
          go_upto_region 31 with (first
            | (go_at_call 21; refine G.mono ?_; rintro en w6 ⟨rfl, r6, g6⟩)
            | (go_at_call 20; refine W.mono ?_; rintro en wx ⟨rfl, rfl⟩))
          have b6 : Below w.heap.size w w6 := bb.trans (below_of_grown g6 rw5 (by intro k hk; cases hk; exact rlo))
          clear G W f5 g6 Ra bb i0 i1
          have E := Err_calls r (xs) 0 10 w6 r6
          go_upto_region 33 with (go_at_call 22; refine E.mono ?_; rintro en w7 ⟨rfl, j7, rfl⟩)
          have r7 := r6.drewN j7
          have b7 := below_drewN b6 j7
          clear E r6 b6
          generalize w6.drewN j7 = w7 at *
          have L := Left_calls r (xs) 0 10 w7 r7
          rw [leftS_broken _ _ _ (by decide)] at L
          go_wp2_with (first
            | (go_at_call 23; refine (num_calls _ _).mono ?_; rintro en wx ⟨rfl, rfl⟩)
            | (go_at_call 24; refine L.mono ?_; rintro en w8 ⟨rfl, j8, rfl⟩))
          go_roundw
          case rel => exact ⟨i + 1, by omega, by omega, by go_num, r7.drewN j8, below_drewN b7 j8⟩
          case measure => simp [intOf]; omega
      · have E := Err_calls r (xs) 0 10 wr R
        rcases (show (i = 2000 ∧ (2000 : Int) < (n3 : Int)) ∨ i = n3 by omega) with ⟨rfl, j1⟩ | rfl
        all_goals
          clear hend
          go_upto_region 36 with (go_at_call 22; refine E.mono ?_; rintro en w7 ⟨rfl, j7, rfl⟩)
          have r7 := R.drewN j7
          have b7 := below_drewN b j7
          clear E R b
          generalize wr.drewN j7 = w7 at *
          have L := Left_calls r (xs) 0 10 w7 r7
          rw [leftS_broken _ _ _ (by decide)] at L
          go_wp2_with (first
            | (go_at_call 23; refine (num_calls _ _).mono ?_; rintro en wx ⟨rfl, rfl⟩)
            | (go_at_call 24; refine L.mono ?_; rintro en w8 ⟨rfl, j8, rfl⟩))
          go_ret
          exact ⟨rfl, below_drewN b7 j8⟩
end Go.Proofs.Ytnhmilpnekfhmaa
