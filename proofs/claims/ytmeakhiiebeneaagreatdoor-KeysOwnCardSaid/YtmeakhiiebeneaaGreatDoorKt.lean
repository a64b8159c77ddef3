/- coppicelaw3.KeysOwn. -/
import Derived.Test.YtmeakhiiebeneaaGreatDoorKs
import Derived.Test.YtmeakhiiebeneaaGreatDoorKr
namespace Go.Proofs.YtmeakhiiebeneaaGreatDoor
open Go.RowKit

def Away (ps : List Slot) (g : Nat) : Prop := ∀ p ∈ ps, ∀ a, p.1 = some a → a.block ≠ g
theorem Away.snoc {ps : List Slot} {g : Nat} (h : Away ps g) {p : Slot} (hp : ∀ a, p.1 = some a → a.block ≠ g) : Away (ps ++ [p]) g := by
  intro q hq a ha
  rcases List.mem_append.1 hq with z | z
  · exact h q z a ha
  · rw [List.mem_singleton] at z
    subst z
    exact hp a ha
theorem BookB.other2 {w w' : World} {gk base m cb cw g N C : Nat} {Ab Aw : Option Addr} {ps pw : List Slot} {xss : List (List UInt8)} {zs : List UInt8} (h : BookB w gk base m Ab cb Aw cw ps pw xss) (k : w.grownBy w' (some g)) (o : OB w g N C zs) (h1 : Away ps g) (h2 : Away pw g) : BookB w' gk base m Ab cb Aw cw ps pw xss := by
  have f : ∀ {n c : Nat} {A : Option Addr} {qs : List Slot}, LS w base 5 1 40 A n c qs (xss.map u8s) → Away qs g → LS w' base 5 1 40 A n c qs (xss.map u8s) := fun ls ha =>
    ls.other k (fun a e1 e2 => by
      rcases GC.oc ls.row with ⟨e0, _⟩ | ⟨g0, e0, _, og⟩
      · rw [e0] at e1; cases e1
      · rw [e0] at e1; cases e1
        have e2 : g0 = g := e2
        subst e2
        exact absurd (OC.tyy og o) (by decide)) (fun p hp a e1 e2 => ha p hp a e1 e2)
  exact ⟨h.bk.same (Sm.of_grown k h.bk.lt (by
    simp only [ne_eq, Option.some.injEq]
    rintro rfl
    exact absurd (OC.tyy h.bk o) (by decide))), f h.ls h1, f h.lw h2, h.ap⟩
theorem Key.comAll_two (xs ys : List UInt8) : Key.comAll [xs, ys] = Key.com xs ys := by
  have := Key.com_le xs ys
  unfold Key.comAll
  simp only [List.foldl_cons, List.foldl_nil]
  omega
theorem two_rows (w : World) (A1 A2 : Option Addr) (n1 c1 n2 c2 : Nat) (xs ys : List UInt8) (r1 : RB w A1 n1 c1 xs) (r2 : RB w A2 n2 c2 ys) : RM (w.alloc (.cells #[.slice A1 n1 c1, .slice A2 n2 c2] 40)) (some ⟨w.heap.size, 0, none⟩) 2 2 [.slice A1 n1 c1, .slice A2 n2 c2] [xs, ys] := by
  have o : OC (w.alloc (.cells #[.slice A1 n1 c1, .slice A2 n2 c2] 40)) 40 1 w.heap.size 2 2 [.slice A1 n1 c1, .slice A2 n2 c2] := OC.mk rfl _ (heap_alloc_new w _) (Nat.le_refl _) (by rw [maxLen_is]; omega) rfl rfl
  refine ⟨o.read, rfl, fun j zs hj => ?_⟩
  match j, hj with
  | 0, hj => cases hj; exact ⟨A1, n1, c1, rfl, r1.below (below1 _ _)⟩
  | 1, hj => cases hj; exact ⟨A2, n2, c2, rfl, r2.below (below1 _ _)⟩
theorem lens_snocK {xss : List (List UInt8)} {K : Nat} (h : ∀ xs ∈ xss, xs.length ≤ K) {ys : List UInt8} (hy : ys.length ≤ K) : ∀ xs ∈ xss ++ [ys], xs.length ≤ K := by
  intro xs hx
  rcases List.mem_append.1 hx with q | q
  · exact h xs q
  · rw [List.mem_singleton] at q; rw [q]; exact hy
theorem room_take {xs R : List UInt8} {k : Nat} (h : xs.length = k) : (xs ++ R).take k = xs := by subst h; simp
set_option maxRecDepth 100000 in
set_option maxHeartbeats 40000000 in
theorem KeysOwn_walk (A : Option Addr) (n c : Nat) (w : World) (hx : RP w A n) :
    Calls Tryz.prog 3 #[.slice A n c] w fun en w' => en = .returned (.bool true) ∧ Below w.heap.size w w' := by
  by_cases hn : 60 < n
  · have hn' : (60 : Int) < n := by omega
    go_enter Tryz.func3, Tryz.ntmps3
    go_wp2_with (go_at_call 8; refine (first_calls _).mono ?_; rintro en w1 ⟨rfl, b1⟩)
    go_ret
    exact ⟨rfl, b1⟩
  have hn' : (n : Int) ≤ 60 := by omega
  clear hn
  go_enter Tryz.func3, Tryz.ntmps3
  go_upto_region 2 with (go_at_call 8; refine (first_calls _).mono ?_; rintro en w1 ⟨rfl, b1⟩)
  go_upto_region 4 with fail
  have x3 := below1 w1 bookO
  have B3 := BookB.new w1 (w1.heap.size + 1)
  have z3 : w1.heap.size + 1 ≤ (w1.alloc bookO).heap.size := by simp
  have b2 := b1.trans (x3.mono b1.size)
  have hgk := b1.size
  go_upto_region 5 with (refine wp_book rfl ?_)
  change Code.wp _ _ _ _ (w1.alloc bookO)
  generalize w1.alloc bookO = w2 at *
  generalize w1.heap.size = gk at *
  clear x3 b1 w1
  go_upto_region 6 with fail
  go_loopw [5] (fun ii wr => ∃ (i m cb cw : Nat) (Ab Aw : Option Addr) (ps pw : List Slot) (xss : List (List UInt8)), i ≤ n ∧ Hid (m ≤ 4 * i) ∧ ii = .int .i64 (i : Int) ∧ BookB wr gk (gk + 1) m Ab cb Aw cw ps pw xss ∧ Hid (∀ xs ∈ xss, xs.length ≤ 900000) ∧ gk + 1 ≤ wr.heap.size ∧ Below w.heap.size w wr)
    (fun ii _ => 60 - (intOf ii).toNat)
  case atStart => exact ⟨0, 0, 0, 0, none, none, [], [], [], by omega, hideIt (by omega), rfl, B3, hideIt (fun xs hx => by cases hx), z3, b2⟩
  case round =>
    clear B3 z3 b2
    obtain ⟨i, m, cb, cw, Ab, Aw, ps, pw, xss, hi, HM, rfl, B, HX, zr, b⟩ := hrel
    by_cases hlt : i < n
    · obtain ⟨ad, A1, n1, c1, A2, n2, c2, xs, ys, rfl, E1, E2, R1, R2⟩ := hx.each i hlt
      have hx := hideIt hx
      have e1 := (b.cell (World.block_lt_of_cell? w _ E1)).trans E1
      have E3 : w.cell? ⟨(ad.add (i * 2)).block, (ad.add (i * 2)).off + 1, none⟩ = some (.slice A2 n2 c2) := by rw [← Addr.add_succ']; exact E2
      clear E2 
      have e3 := (b.cell (World.block_lt_of_cell? w _ E3)).trans E3
      by_cases k1 : 2000 < n1
      · have k1' : (2000 : Int) < n1 := by omega
        have d1 : decide ((2000 : Int) < (n1 : Int)) = true := decide_eq_true k1'
        have d1n : decide (2000 < n1) = true := decide_eq_true k1
        go_wp2
        go_roundw
        case rel => exact ⟨i + 1, m, _, _, _, _, _, _, _, by omega, hideIt (by have := HM.out; omega), by go_num, B, HX, zr, b⟩
        case measure => simp [intOf]; omega
      · have k1' : (n1 : Int) ≤ 2000 := by omega
        have d1 : decide ((2000 : Int) < (n1 : Int)) = false := decide_eq_false (by omega)
        have d1n : decide (2000 < n1) = false := decide_eq_false k1
        by_cases k2 : 2000 < n2
        · have k2' : (2000 : Int) < n2 := by omega
          have d2 : decide ((2000 : Int) < (n2 : Int)) = true := decide_eq_true k2'
          have d2n : decide (2000 < n2) = true := decide_eq_true k2
          go_wp2
          go_roundw
          case rel => exact ⟨i + 1, m, _, _, _, _, _, _, _, by omega, hideIt (by have := HM.out; omega), by go_num, B, HX, zr, b⟩
          case measure => simp [intOf]; omega
        · have k2' : (n2 : Int) ≤ 2000 := by omega
          have d2 : decide ((2000 : Int) < (n2 : Int)) = false := decide_eq_false (by omega)
          have d2n : decide (2000 < n2) = false := decide_eq_false k2
          go_upto_region 9 with fail
          have r1 := R1.below b
          have L0 := hideIt (show ∀ p ∈ ps, ∀ a, p.1 = some a → a.block < wr.heap.size from fun p hp a ha => (B.ls.lt p hp a ha).1)
          have L1 := hideIt (show ∀ p ∈ pw, ∀ a, p.1 = some a → a.block < wr.heap.size from fun p hp a ha => (B.lw.lt p hp a ha).1)
          go_upto_region 10 with (go_at_call 9; refine (roomy_calls _ _ _ _ _ r1 (by omega)).mono ?_; rintro en w3 ⟨gx, cx, rfl, sx, ox, x3⟩)
          replace B := B.below x3
          have zr3 := Nat.le_trans zr x3.size
          have hz3 := x3.size
          have b3 := b.trans (x3.mono b.size)
          clear e1 e3 r1 x3
          have e3 := (b3.cell (World.block_lt_of_cell? w _ E3)).trans E3
          have r2 := R2.below b3
          have lx := ox.lt
          go_upto_region 11 with (go_at_call 9; refine (roomy_calls _ _ _ _ _ r2 (by omega)).mono ?_; rintro en w4 ⟨gy, cy, rfl, sy, oy, x4⟩)
          replace B := B.below x4
          replace ox := ox.below x4
          have zr4 := Nat.le_trans zr3 x4.size
          have b4 := b3.trans (x4.mono b3.size)
          have AY := hideIt (show Away ps gy from fun p hp a ha => by have := L0.out p hp a ha; omega)
          have AW := hideIt (show Away pw gy from fun p hp a ha => by have := L1.out p hp a ha; omega)
          have hxy : gx < gy := by omega
          have hwy : w.heap.size ≤ gy := by have := b3.size; omega
          clear e3 r2 b3 x4 L0 L1 zr3 hz3 lx sy sx
          have e1 := (b4.cell (World.block_lt_of_cell? w _ E1)).trans E1
          have e3 := (b4.cell (World.block_lt_of_cell? w _ E3)).trans E3
          have kx := OC.le ox
          have ky := OC.le oy
          have ly : ys.length = n2 := R2.len
          have lx : xs.length = n1 := R1.len
          clear b zr w3
          go_upto_region 14 with fail
          clear e1 e3
          go_loopw [10] (fun jj wk => ∃ (j m cb cw : Nat) (Ab Aw : Option Addr) (ps pw : List Slot) (xss : List (List UInt8)) (ys : List UInt8), j ≤ 2 ∧ Hid (m ≤ 4 * i + 2 * j) ∧ jj = .int .i64 (j : Int) ∧ BookB wk gk (gk + 1) m Ab cb Aw cw ps pw xss ∧ Hid (∀ xs ∈ xss, xs.length ≤ 900000) ∧ OB wk gx (n1 + 40) cx (xs ++ room40 40) ∧ OB wk gy (n2 + 40) cy (ys ++ room40 40) ∧ Hid (ys.length = n2) ∧ Hid (Away ps gy) ∧ Hid (Away pw gy) ∧ gk + 1 ≤ wk.heap.size ∧ Below w.heap.size w wk)
            (fun jj _ => 2 - (intOf jj).toNat)
          case atStart => exact ⟨0, m, _, _, _, _, _, _, _, _, by omega, hideIt (by have := HM.out; omega), rfl, B, HX, ox, oy, hideIt ly, AY, AW, zr4, b4⟩
          case round =>
            clear B HX ox oy ly AY AW zr4 b4 HM m cb cw Ab Aw ps pw xss ys R2
            obtain ⟨j, m, cb, cw, Ab, Aw, ps, pw, xss, ys, hj, HM, rfl, B, HX, ox, oy, HL, AY, AW, zr, b⟩ := hrel
            by_cases hj2 : j < 2
            · have kx := OC.le ox
              have ky := OC.le oy
              have lx : xs.length = n1 := R1.len
              have ra : RB wr (some ⟨gx, 0, none⟩) n1 cx xs := by have := ox.read.take n1 (by omega); rwa [room_take lx] at this
              have rb : RB wr (some ⟨gy, 0, none⟩) n2 cy ys := by have := oy.read.take n2 (by omega); rwa [room_take HL.out] at this
              have S0 := hideIt (show ∀ p ∈ ps, ∀ a, p.1 = some a → a.block < wr.heap.size from fun p hp a ha => (B.ls.lt p hp a ha).1)
              have lyk := oy.lt
              clear lx
              go_upto_region 17 with (go_at_call 10; refine (Separator_own _ _ _ _ _ _ _ _ _ ra rb (by omega) (by omega)).mono ?_; intro en w5 q; obtain ⟨A5, n5, c5, rfl, o5, l5, x5⟩ := q)
              have F5 := hideIt (B.ls.fresh (Nat.le_refl _) (fun z ez => (GB.lt o5 z ez).2))
              have Y5 := hideIt (show ∀ a, A5 = some a → a.block ≠ gy from fun a ha => by have := (GB.lt o5 a ha).2; omega)
              replace ra := ra.below x5
              replace rb := rb.below x5
              replace ox := ox.below x5
              replace oy := oy.below x5
              replace B := B.below x5
              replace o5 := GC.lower o5 zr
              have zr5 := Nat.le_trans zr x5.size
              have b5 := b.trans (x5.mono b.size)
              have h5 := x5.size
              clear x5 b zr S0
              go_upto_region 18 with (go_at_call 10; refine (Separator_own _ _ _ _ _ _ _ _ _ ra rb (by omega) (by omega)).mono ?_; intro en w6 q; obtain ⟨A6, n6, c6, rfl, o6, l6, x6⟩ := q)
              have F6 := hideIt (show ∀ p ∈ ps ++ [(A5, n5, c5)], ∀ a z, p.1 = some a → A6 = some z → a.block ≠ z.block from fun p hp a z ha hz => by
                have h2 := (GB.lt o6 z hz).2
                rcases List.mem_append.1 hp with q | q
                · have h1 := (B.ls.lt p q a ha).1
                  omega
                · rw [List.mem_singleton] at q
                  subst q
                  have h1 := (GB.lt o5 a ha).1
                  omega)
              have Y6 := hideIt (show ∀ a, A6 = some a → a.block ≠ gy from fun a ha => by have := (GB.lt o6 a ha).2; omega)
              replace ra := ra.below x6
              replace rb := rb.below x6
              replace ox := ox.below x6
              replace oy := oy.below x6
              replace B := B.below x6
              replace o5 := GB.below o5 x6
              replace o6 := GC.lower o6 zr5
              have zr6 := Nat.le_trans zr5 x6.size
              have b6 := b5.trans (x6.mono b5.size)
              have h6 := Nat.le_trans h5 x6.size
              clear x6 b5 zr5 h5 w5
              go_upto_region 19 with (go_at_call 11; refine (refSep_own _ _ _ _ _ _ _ _ _ ra rb (by omega) (by omega)).mono ?_; rintro en w7 ⟨A7, n7, c7, rfl, r7, x7⟩)
              replace ra := ra.below x7
              replace rb := rb.below x7
              replace ox := ox.below x7
              replace oy := oy.below x7
              replace B := B.below x7
              replace o5 := GB.below o5 x7
              replace o6 := GB.below o6 x7
              have zr7 := Nat.le_trans zr6 x7.size
              have b7 := b6.trans (x7.mono b6.size)
              have h7 := Nat.le_trans h6 x7.size
              clear x7 b6 zr6 h6 w6
              go_upto_region 20 with (go_at_call 12; refine (SameBytes_calls _ _ _ _ _ _ _ _ _ (GB.read o5) r7 true (by simp)).mono ?_; rintro en w9 ⟨rfl, rfl⟩)
              go_upto_region 21 with (go_at_call 12; refine (SameBytes_calls _ _ _ _ _ _ _ _ _ (GB.read o6) r7 true (by simp)).mono ?_; rintro en w9 ⟨rfl, rfl⟩)
              clear r7
              go_upto_region 22 with (go_at_call 13; refine (Compare_calls _ _ _ _ _ _ _ _ _ ra rb).mono ?_; rintro en w9 ⟨rfl, rfl⟩)
              have rm := two_rows w7 _ _ n1 cx n2 cy xs ys ra rb
              have x8 := below1 w7 (.cells #[.slice (some ⟨gx, 0, none⟩) n1 cx, .slice (some ⟨gy, 0, none⟩) n2 cy] 40)
              go_upto_region 23 with (go_at_call 14; refine (CommonAll_calls _ _ _ _ _ _ rm).mono ?_; rintro en w8 ⟨rfl, y8⟩; rw [Key.comAll_two])
              have z8 := x8.trans (y8.mono x8.size)
              replace ra := ra.below z8
              replace rb := rb.below z8
              replace ox := ox.below z8
              replace oy := oy.below z8
              replace B := B.below z8
              replace o5 := GB.below o5 z8
              replace o6 := GB.below o6 z8
              have zr8 := Nat.le_trans zr7 z8.size
              have b8 := b7.trans (z8.mono b7.size)
              have h8 := Nat.le_trans h7 z8.size
              clear x8 y8 z8 rm b7 zr7 h7
              generalize w7.heap.size = s7 at *
              clear w7
              go_upto_region 24 with (go_at_call 15; refine (Common_below _ _ _ _ _ _ _ _ _ ra rb (by omega) (by omega)).mono ?_; rintro en w9 ⟨rfl, x9⟩)
              replace ra := ra.below x9
              replace rb := rb.below x9
              replace ox := ox.below x9
              replace oy := oy.below x9
              replace B := B.below x9
              replace o5 := GB.below o5 x9
              replace o6 := GB.below o6 x9
              have zr9 := Nat.le_trans zr8 x9.size
              have b9 := b8.trans (x9.mono b8.size)
              have h9 := Nat.le_trans h8 x9.size
              clear x9 b8 zr8 h8 w8
              go_upto_region 26 with (first
                | (go_at_call 16; refine (num_calls _ _).mono ?_; rintro en w10 ⟨rfl, rfl⟩)
                | (go_at_call 17; refine (refCompare_below _ _ _ _ _ _ _ _ _ ra rb (by omega) (by omega)).mono ?_; rintro en wA ⟨rfl, xA⟩; have raA := ra.below xA; have rbA := rb.below xA)
                | (go_at_call 18; refine (refCommon_below _ _ _ _ _ _ _ _ _ raA rbA (by omega) (by omega)).mono ?_; rintro en wB ⟨rfl, xB⟩))
              have xAB := xA.trans (xB.mono xA.size)
              replace ox := ox.below xAB
              replace oy := oy.below xAB
              replace B := B.below xAB
              replace o5 := GB.below o5 xAB
              replace o6 := GB.below o6 xAB
              have zrB := Nat.le_trans zr9 xAB.size
              have bB := b9.trans (xAB.mono b9.size)
              clear xA xB xAB raA rbA ra rb zr9 b9 h9 wA w9
              have hm2 := HM.out
              have lyB := oy.lt
              have s5 : (sepR xs ys).length ≤ 900000 := by have := (GB.read o5).len; omega
              have HX2 := hideIt (lens_snocK (lens_snocK HX.out s5) s5)
              have BY := Bytes_b2 gk (gk + 1) m cb cw Ab Aw ps pw xss A5 n5 c5 _ wB B o5 F5.out (by omega) (by omega) zrB
              clear HX s5
              go_upto_region 27 with (go_at_call 19; refine BY.mono ?_; intro en wC q; obtain ⟨⟨v1, rfl⟩, Ab1, cb1, Aw1, cw1, p1, B1, P1, ou1⟩ := q)
              have AY1 := hideIt (AY.out.snoc (p := (A5, n5, c5)) Y5.out)
              have AW1 := hideIt (AW.out.snoc (p := p1) (fun a ha => by have := P1 a ha; omega))
              replace ox := ou1.keepOB B.bk ox
              replace oy := ou1.keepOB B.bk oy
              replace o6 := ou1.keepGB B.bk o6
              have zrC := Nat.le_trans zrB ou1.size
              have bC := bB.trans (ou1.keepBelow bB.size hgk (by omega))
              have lyC := oy.lt
              clear ou1 P1 BY B o5 zrB bB lyB AY AW Y5 F5 wB
              have BY := Bytes_b2 gk (gk + 1) (m + 1) cb1 cw1 Ab1 Aw1 _ _ _ A6 n6 c6 _ wC B1 o6 F6.out (by omega) (by omega) zrC
              go_upto_region 28 with (go_at_call 19; refine BY.mono ?_; intro en wD q; obtain ⟨⟨v2, rfl⟩, Ab2, cb2, Aw2, cw2, p2, B2, P2, ou2⟩ := q)
              have AY2 := hideIt (AY1.out.snoc (p := (A6, n6, c6)) Y6.out)
              have AW2 := hideIt (AW1.out.snoc (p := p2) (fun a ha => by have := P2 a ha; omega))
              replace ox := ou2.keepOB B1.bk ox
              replace oy := ou2.keepOB B1.bk oy
              have zrD := Nat.le_trans zrC ou2.size
              have bD := bC.trans (ou2.keepBelow bC.size hgk (by omega))
              clear ou2 P2 BY B1 o6 zrC bC lyC AY1 AW1 Y6 F6 wC
              by_cases j0 : j = 0
              · subst j0
                rcases Nat.eq_zero_or_pos n2 with h0 | h0
                · have h0' : decide ((0 : Int) < (n2 : Int)) = false := decide_eq_false (by omega)
                  have h0n : decide (0 < n2) = false := decide_eq_false (by omega)
                  go_wp2
                  go_roundw
                  case rel => exact ⟨1, m + 2, _, _, _, _, _, _, _, ys, by omega, hideIt (by omega), by go_num, B2, HX2, ox, oy, HL, AY2, AW2, zrD, bD⟩
                  case measure => simp [intOf]
                · have h0' : decide ((0 : Int) < (n2 : Int)) = true := decide_eq_true (by omega)
                  have h0n : decide (0 < n2) = true := decide_eq_true h0
                  obtain ⟨q, HQ⟩ : ∃ q, Hid (n2 = q + 1) := ⟨n2 - 1, hideIt (by omega)⟩
                  have hq1 : (n2 : Int) - 1 = (q : Int) := by have := HQ.out; omega
                  have hq2 : (q : Int) < (n2 : Int) := by have := HQ.out; omega
                  obtain ⟨y, hy⟩ : ∃ y, (ys ++ room40 40).getD q 0 = y := ⟨_, rfl⟩
                  have cy1 := byte_cell oy (q := q) (by have := HQ.out; omega) (hideIt hy)
                  have fy1 := OB.free oy q
                  have KEEP : Hid (BookB wD gk (gk + 1) (m + 1 + 1) Ab2 cb2 Aw2 cw2 (ps ++ [(A5, n5, c5)] ++ [(A6, n6, c6)]) (pw ++ [p1] ++ [p2]) (xss ++ [sepR xs ys] ++ [sepR xs ys]) ∧ OB wD gx (n1 + 40) cx (xs ++ room40 40) ∧ OB wD gy (n2 + 40) cy (ys ++ room40 40) ∧ gk + 1 ≤ wD.heap.size ∧ Below w.heap.size w wD ∧ gx < gy ∧ w.heap.size ≤ gy) := hideIt ⟨B2, ox, oy, zrD, bD, hxy, hwy⟩
                  have HY := hideIt hy
                  clear hy B2 ox oy zrD bD
                  go_upto_region 30 with fail
                  have hy := HY.out
                  have B2 := KEEP.out.1
                  have ox := KEEP.out.2.1
                  have oy := KEEP.out.2.2.1
                  have zrD := KEEP.out.2.2.2.1
                  have bD := KEEP.out.2.2.2.2.1
                  have oT := byte_turn oy q y 1
                  have eT : (ys ++ room40 40).set q (y ^^^ 1) = ys.set q (y ^^^ 1) ++ room40 40 := by rw [List.set_append_left _ _ (by rw [HL.out]; have := HQ.out; omega)]
                  rw [eT] at oT
                  have HT : Hid ((ys.set q (y ^^^ 1)).length = n2) := hideIt (by rw [List.length_set]; exact HL.out)
                  have BT := B2.other2 (gset wD gy q (.int .u8 (bits .xor .u8 (y.toNat : Int) 1))) oy AY2.out AW2.out
                  have bT := bD.grown (gset wD gy q (.int .u8 (bits .xor .u8 (y.toNat : Int) 1))) bD.size (fun g e => by cases e; exact KEEP.out.2.2.2.2.2.2)
                  have oxT := ox.same (Sm.setCell wD ⟨gy, q, none⟩ (.int .u8 (bits .xor .u8 (y.toNat : Int) 1)) (show gx ≠ gy by have := KEEP.out.2.2.2.2.2.1; omega))
                  have zrT := Nat.le_trans zrD (gset wD gy q (.int .u8 (bits .xor .u8 (y.toNat : Int) 1))).size
                  clear hy eT B2 ox oy zrD bD cy1 fy1 h0 h0' h0n hq1 hq2
                  exact ⟨⟨1, m + 2, _, _, _, _, _, _, _, ys.set q (y ^^^ 1), by omega, hideIt (by omega), rfl, BT, HX2, oxT, oT, HT, AY2, AW2, zrT, bT⟩, by simp [intOf]⟩
              · obtain rfl : j = 1 := by omega
                go_wp2
                go_roundw
                case rel => exact ⟨2, m + 2, _, _, _, _, _, _, _, ys, by omega, hideIt (by omega), by go_num, B2, HX2, ox, oy, HL, AY2, AW2, zrD, bD⟩
                case measure => simp [intOf]
            · obtain rfl : j = 2 := by omega
              have e1 := (b.cell (World.block_lt_of_cell? w _ E1)).trans E1
              have r1 := R1.below b
              have ky := OC.le oy
              have rb : RB wr (some ⟨gy, 0, none⟩) n2 cy ys := by have := oy.read.take n2 (by omega); rwa [room_take HL.out] at this
              go_upto_region 31 with (first
                | (go_at_call 12; (with_reducible refine (SameBytes_calls _ _ _ _ _ _ _ _ _ oy6.read o6.read true (by simp)).mono ?_); rintro en w9 ⟨rfl, rfl⟩)
                | (go_at_call 9; (with_reducible refine (roomy_calls _ _ _ _ _ rb5 (by omega)).mono ?_); rintro en w6 ⟨g6, c6, rfl, s6, o6, x6⟩; have oy6 := oy5.below x6)
                | (go_at_call 12; (with_reducible refine (SameBytes_calls _ _ _ _ _ _ _ _ _ ox5.read o5.read true (by simp)).mono ?_); rintro en w9 ⟨rfl, rfl⟩)
                | (go_at_call 9; (with_reducible refine (roomy_calls _ _ _ _ _ r1 (by omega)).mono ?_); rintro en w5 ⟨g5, c5, rfl, s5, o5, x5⟩; have ox5 := ox.below x5; have oy5 := oy.below x5; have rb5 := rb.below x5))
              have x56 := x5.trans (x6.mono x5.size)
              replace B := B.below x56
              replace b := b.trans (x56.mono b.size)
              replace zr := Nat.le_trans zr x56.size
              go_wp2
              go_roundw
              case rel => exact ⟨i + 1, m, _, _, _, _, _, _, _, by omega, hideIt (by have := HM.out; omega), by go_num, B, HX, zr, b⟩
              case measure => simp [intOf]; omega
    · obtain rfl : i = n := by omega
      have hm2 := HM.out
      have lsb := hideIt B.ls
      have FI := Finish_k gk (gk + 1) m cb cw Ab Aw ps pw xss wr B HX.out (by omega) zr
      clear B HX
      go_wp2_with (go_at_call 20; refine FI.mono ?_; rintro en w8 ⟨rfl, ou⟩)
      go_ret
      exact ⟨rfl, b.trans (ou.below b.size (fun g q => by
        rcases q with q | q
        · omega
        · have := InPs.base lsb.out q
          omega))⟩
end Go.Proofs.YtmeakhiiebeneaaGreatDoor
