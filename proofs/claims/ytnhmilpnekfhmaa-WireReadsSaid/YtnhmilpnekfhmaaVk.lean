/- The walk of the law WireReads. -/
import Derived.Test.YtnhmilpnekfhmaaVj
import Derived.Test.YtnhmilpnekfhmaaVf
import Derived.Test.YtnhmilpnekfhmaaOpenO
namespace Go.Proofs.Ytnhmilpnekfhmaa
open Go.RowKit

/-- A reader, all of it in blocks from lo on. -/
def RdN (w : World) (lo g : Nat) (B : List UInt8) (at_ : Nat) (e : Int) : Prop :=
  ∃ t gb n c, OC w t 1 g 3 3 [.slice (some ⟨gb, 0, none⟩) n c, .int .i64 (at_ : Int), .int .i64 e] ∧ OB w gb n c B ∧ gb < g ∧ (at_ ≤ n ∧ n ≤ 140737488355328 ∧ t ≠ 5) ∧ lo ≤ gb
theorem RdN.rd {w : World} {lo g : Nat} {B : List UInt8} {at_ : Nat} {e : Int} (h : RdN w lo g B at_ e) : Rd w g B at_ e := by
  obtain ⟨t, gb, n, c, h1, h2, h3, h4, h5⟩ := h
  exact ⟨t, gb, n, c, h1, h2, h3, h4⟩
theorem RdN.below {w w' : World} {lo g : Nat} {B : List UInt8} {at_ : Nat} {e : Int} (h : RdN w lo g B at_ e) (b : Below w.heap.size w w') : RdN w' lo g B at_ e := by
  obtain ⟨t, gb, n, c, h1, h2, h3, h4, h5⟩ := h
  exact ⟨t, gb, n, c, h1.below b, h2.below b, h3, h4, h5⟩
theorem RdN.under {w w' : World} {lo g k : Nat} {B : List UInt8} {at_ : Nat} {e : Int} (h : RdN w lo g B at_ e) (gx : w.grownBy w' (some k)) (hk : k < lo) : RdN w' lo g B at_ e := by
  obtain ⟨t, gb, n, c, h1, h2, h3, h4, h5⟩ := h
  have n1 : g ≠ k := by omega
  have n2 : gb ≠ k := by omega
  exact ⟨t, gb, n, c, h1.same (Sm.of_grown gx h1.lt (by simpa using n1)), h2.same (Sm.of_grown gx h2.lt (by simpa using n2)), h3, h4, h5⟩
theorem RdN.lower {w : World} {lo lo' g : Nat} {B : List UInt8} {at_ : Nat} {e : Int} (h : RdN w lo g B at_ e) (hl : lo' ≤ lo) : RdN w lo' g B at_ e := by
  obtain ⟨t, gb, n, c, h1, h2, h3, h4, h5⟩ := h
  exact ⟨t, gb, n, c, h1, h2, h3, h4, Nat.le_trans hl h5⟩

set_option maxHeartbeats 400000 in
theorem NewReader_new (A : Option Addr) (n c : Nat) (xs : List UInt8) (w : World) (hx : RB w A n c xs) (hb : n ≤ 140737488355328) :
    Calls Try.prog 14 #[.slice A n c] w fun e w' => ∃ g, e = .returned (.pointer (some ⟨g, 0, none⟩)) ∧ w.heap.size ≤ g ∧ RdN w' w.heap.size g xs 0 0 ∧ Below w.heap.size w w' := by
  go_enter Try.func14, Try.ntmps14
  go_wp2_with (go_at_call 38; refine (grown_calls _ _ _ 0 _ _ hx (by omega)).mono ?_; rintro e w1 ⟨g1, rfl, s1, o1, b1⟩)
  have z1 := b1.size
  go_ret
  refine ⟨_, rfl, z1, ⟨71, g1, n, n + 0, OC.mk rfl _ (heap_alloc_new w1 _) (Nat.le_refl _) (by rw [maxLen_is]; omega) rfl rfl, o1.same (Sm.alloc w1 _ o1.lt), o1.lt, ⟨Nat.zero_le _, hb, by decide⟩, s1⟩, b1.alloc z1 _⟩

/-- Two pairs of readers. -/
structure Four (w : World) (r d s e : Nat) (a b : List UInt8) : Prop where
  one : ∃ at_ er, Pair w r d a at_ er
  two : ∃ at_ er, Pair w s e b at_ er
  n1 : s ≠ r
  n2 : s ≠ d
  n3 : e ≠ r
  n4 : e ≠ d
theorem Four.left {w w' : World} {r d s e : Nat} {a b : List UInt8} (h : Four w r d s e a b) (p : ∃ at_ er, Pair w' r d a at_ er) (f : Fr w w' r d) : Four w' r d s e a b := by
  obtain ⟨x, y, q⟩ := h.one
  obtain ⟨x', y', q'⟩ := h.two
  exact ⟨p, ⟨x', y', q'.frame q f h.n1 h.n2 h.n3 h.n4⟩, h.n1, h.n2, h.n3, h.n4⟩
theorem Four.swap {w : World} {r d s e : Nat} {a b : List UInt8} (h : Four w r d s e a b) : Four w s e r d b a := ⟨h.two, h.one, Ne.symm h.n1, Ne.symm h.n3, Ne.symm h.n2, Ne.symm h.n4⟩
theorem Four.below {w w' : World} {r d s e : Nat} {a b : List UInt8} (h : Four w r d s e a b) (bl : Below w.heap.size w w') : Four w' r d s e a b := by
  obtain ⟨x, y, q⟩ := h.one
  obtain ⟨x', y', q'⟩ := h.two
  exact ⟨⟨x, y, q.below bl⟩, ⟨x', y', q'.below bl⟩, h.n1, h.n2, h.n3, h.n4⟩
/-- a step at the one pair, both stay, and what was there. -/
theorem step_four (K N : Int) (sec : Bool) (B0 : Nat) (w0 : World) (r d s e : Nat) (a b : List UInt8) (w : World) (h : Four w r d s e a b) (hB : a.length ≤ 140737488351232) (hN : I64 N) (bl : Below B0 w0 w) (h0 : B0 ≤ w.heap.size) (hr : B0 ≤ r) (hd : B0 ≤ d) :
    Calls Try.prog 16 #[.agg #[.int .i64 K, .int .i64 N, .bool sec], .pointer (some ⟨r, 0, none⟩), .pointer (some ⟨d, 0, none⟩)] w fun en w' => en = .returned (.bool true) ∧ Four w' r d s e a b ∧ Below B0 w0 w' ∧ w.heap.size ≤ w'.heap.size := by
  obtain ⟨x, y, q⟩ := h.one
  refine (step_calls K N sec r d a x y w q hB hN).mono ?_
  rintro en w' ⟨rfl, p, f⟩
  exact ⟨rfl, h.left p f, Fr.to_below bl f h0 hr hd, f.size⟩

set_option maxRecDepth 100000 in
set_option maxHeartbeats 8000000 in
theorem WireReads_walk (A1 : Option Addr) (n1 c1 : Nat) (xs1 : List UInt8) (A2 : Option Addr) (n2 c2 : Nat) (xs2 : List UInt8) (A3 : Option Addr) (n3 c3 : Nat) (ops : List (Int × Int × Bool)) (w : World)
    (h1 : RB w A1 n1 c1 xs1) (_y1 : n1 ≤ 140737488351232) (h2 : RB w A2 n2 c2 xs2) (_y2 : n2 ≤ 140737488351232) (h3 : OpsAt w A3 n3 c3 ops) :
    Calls Try.prog 4 #[.slice A1 n1 c1, .slice A2 n2 c2, .slice A3 n3 c3] w fun e w' => e = .returned (.bool true) ∧ Below w.heap.size w w' := by
  by_cases hbig : 65536 < n1
  · have hbig' : (65536 : Int) < n1 := by omega
    go_enter Try.func4, Try.ntmps4
    go_wp2_with (go_at_call 10; refine (first_calls _).mono ?_; rintro e w1 ⟨rfl, b1⟩)
    go_ret
    exact ⟨rfl, b1⟩
  have hs1 : (n1 : Int) ≤ 65536 := by omega
  have hN1 : n1 ≤ 65536 := by omega
  clear hbig
  by_cases hbig : 65536 < n2
  · have hbig' : (65536 : Int) < n2 := by omega
    go_enter Try.func4, Try.ntmps4
    go_wp2_with (go_at_call 10; refine (first_calls _).mono ?_; rintro e w1 ⟨rfl, b1⟩)
    go_ret
    exact ⟨rfl, b1⟩
  have hs2 : (n2 : Int) ≤ 65536 := by omega
  have hN2 : n2 ≤ 65536 := by omega
  clear hbig
  have L1 := hideIt h1.len
  have L2 := hideIt h2.len
  go_enter Try.func4, Try.ntmps4
  go_upto_region 4 with (go_at_call 10; refine (first_calls _).mono ?_; rintro e w1 ⟨rfl, b1⟩)
  have g1 := h1.below b1
  have g2 := h2.below b1
  go_upto_region 5 with (go_at_call 11; refine (room_calls _ _ _ _ _ g1 (by omega)).mono ?_; rintro e w2 ⟨gx, cx, rfl, sx, ox, y2⟩)
  have b2 := b1.trans (y2.mono b1.size)
  have gxw := Nat.le_trans b1.size sx
  have g1 := g1.below y2
  have g2 := g2.below y2
  have gxl := ox.lt
  go_upto_region 6 with (go_at_call 11; refine (room_calls _ _ _ _ _ g2 (by omega)).mono ?_; rintro e w3 ⟨gy, cy, rfl, sy, oy, y3⟩)
  have b3 := b2.trans (y3.mono b2.size)
  have gyw := Nat.le_trans b2.size sy
  have g1 := g1.below y3
  have g2 := g2.below y3
  have ox := ox.below y3
  have gxy : gx < gy := Nat.lt_of_lt_of_le gxl sy
  have gyl := oy.lt
  have fx := ox.read.front (n := n1) (by omega)
  have fy := oy.read.front (n := n2) (by omega)
  rw [List.take_left' L1.out] at fx
  rw [List.take_left' L2.out] at fy
  have hcx := OC.le ox
  have hcy := OC.le oy
  have i1 : (n1 : Int) ≤ (n1 : Int) + 3 := by omega
  have i2 : (n1 : Int) + 3 ≤ (cx : Int) := by omega
  have i3 : (n1 : Int) ≤ (cx : Int) := by omega
  have i4 : (n2 : Int) ≤ (n2 : Int) + 3 := by omega
  have i5 : (n2 : Int) + 3 ≤ (cy : Int) := by omega
  have i6 : (n2 : Int) ≤ (cy : Int) := by omega
  clear b1 b2 y2 y3 sx sy hcx hcy gxl
  go_upto_region 7 with (go_at_call 14; refine (NewReader_new _ _ _ _ _ fx (by omega)).mono ?_; rintro e w4 ⟨r, rfl, sr, dr, y4⟩)
  have b4 := b3.trans (y4.mono b3.size)
  have g1 := g1.below y4
  have g2 := g2.below y4
  have ox := ox.below y4
  have oy := oy.below y4
  have fy := fy.below y4
  have rl := dr.rd.lt
  have lo4 := y4.size
  have rw_ := Nat.le_trans b3.size sr
  clear y4 fx
  go_upto_region 8 with (go_at_call 14; refine (NewReader_new _ _ _ _ _ fy (by omega)).mono ?_; rintro e w5 ⟨s, rfl, ss, ds, y5⟩)
  have b5 := b4.trans (y5.mono b4.size)
  have g1 := g1.below y5
  have g2 := g2.below y5
  have ox := ox.below y5
  have oy := oy.below y5
  have dr := dr.below y5
  have ds := ds.lower lo4
  have rs : r < s := Nat.lt_of_lt_of_le rl ss
  have sw_ := Nat.le_trans b4.size ss
  clear y5 b4 fy rl ss lo4 sr
  go_upto_region 9 with (first
    | (go_at_call 13; refine (SameBytes_calls _ _ _ _ _ _ _ _ _ ox6.read q6.read true (by simp)).mono ?_; rintro e wx ⟨rfl, rfl⟩)
    | (go_at_call 11; refine (room_calls _ _ _ _ _ g1 (by omega)).mono ?_; rintro e w6 ⟨g6, d6, rfl, s6, q6, y6⟩; have ox6 := ox.below y6))
  have b6 := b5.trans (y6.mono b5.size)
  have g1 := g1.below y6
  have g2 := g2.below y6
  have oy6 := oy.below y6
  have dr := dr.below y6
  have ds := ds.below y6
  clear y6 q6 s6 b5 ox oy
  go_upto_region 10 with (first
    | (go_at_call 13; refine (SameBytes_calls _ _ _ _ _ _ _ _ _ oy7.read q7.read true (by simp)).mono ?_; rintro e wx ⟨rfl, rfl⟩)
    | (go_at_call 11; refine (room_calls _ _ _ _ _ g2 (by omega)).mono ?_; rintro e w7 ⟨g7, d7, rfl, s7, q7, y7⟩; have oy7 := oy6.below y7))
  have b7 := b6.trans (y7.mono b6.size)
  have ox7 := ox6.below y7
  have dr := dr.below y7
  have ds := ds.below y7
  clear y7 q7 s7 b6 ox6 oy6 g1 g2
  have gxlo : gx < w3.heap.size := by omega
  go_wp2
  go_loopw [14] (fun ii wr => ∃ (i : Nat) (ys : List UInt8), i ≤ n1 + 3 ∧ ii = .int .i64 (i : Int) ∧ OB wr gx (n1 + 3) cx ys ∧ OB wr gy (n2 + 3) cy (xs2 ++ [161, 162, 163]) ∧ RdN wr w3.heap.size r xs1 0 0 ∧ RdN wr w3.heap.size s xs2 0 0 ∧ Below w.heap.size w wr)
    (fun ii _ => n1 + 3 - (intOf ii).toNat)
  case atStart => exact ⟨0, _, by omega, rfl, ox7, oy7, dr, ds, b7⟩
  case round =>
    obtain ⟨i, ys, hi, rfl, ox8, oy8, dr8, ds8, b8⟩ := hrel
    by_cases hlt : i < n1 + 3
    · have fq := ox8.free i
      have hl := ox8.len
      have cq := ox8.cell i (by omega)
      have o9 := ox8.set i 238
      have gw9 := grownBy_set wr gx i (.int .u8 ((238 : UInt8).toNat : Int))
      have b9 := b8.setCell (p := ⟨gx, i, none⟩) gxw (.int .u8 ((238 : UInt8).toNat : Int))
      have oy9 := oy8.same (Sm.of_grown gw9 oy8.lt (by simp; omega))
      have dr9 := dr8.under gw9 gxlo
      have ds9 := ds8.under gw9 gxlo
      have i7 : (i : Int) < (n1 : Int) + 3 := by omega
      clear gw9
      go_wp2
      go_roundw
      case rel => exact ⟨i + 1, _, by omega, by go_num, o9, oy9, dr9, ds9, b9⟩
      case measure => simp [intOf]; omega
    · obtain rfl : i = n1 + 3 := by omega
      go_wp2
      go_loopw [15] (fun ii wr => ∃ (i : Nat) (ys : List UInt8), i ≤ n2 + 3 ∧ ii = .int .i64 (i : Int) ∧ OB wr gy (n2 + 3) cy ys ∧ RdN wr w3.heap.size r xs1 0 0 ∧ RdN wr w3.heap.size s xs2 0 0 ∧ Below w.heap.size w wr)
        (fun ii _ => n2 + 3 - (intOf ii).toNat)
      case atStart => exact ⟨0, _, by omega, rfl, oy8, dr8, ds8, b8⟩
      case round =>
        clear ox8 oy8 dr8 ds8 b8
        obtain ⟨i, ys, hi, rfl, oy8, dr8, ds8, b8⟩ := hrel
        by_cases hlt : i < n2 + 3
        · have fq := oy8.free i
          have hl := oy8.len
          have cq := oy8.cell i (by omega)
          have o9 := oy8.set i 17
          have gw9 := grownBy_set wr gy i (.int .u8 ((17 : UInt8).toNat : Int))
          have b9 := b8.setCell (p := ⟨gy, i, none⟩) gyw (.int .u8 ((17 : UInt8).toNat : Int))
          have dr9 := dr8.under gw9 gyl
          have ds9 := ds8.under gw9 gyl
          have i7 : (i : Int) < (n2 : Int) + 3 := by omega
          clear gw9
          go_wp2
          go_roundw
          case rel => exact ⟨i + 1, _, by omega, by go_num, o9, dr9, ds9, b9⟩
          case measure => simp [intOf]; omega
        · obtain rfl : i = n2 + 3 := by omega
          have g1 := h1.below b8
          have g2 := h2.below b8
          go_upto_region 21 with (go_at_call 15; refine (New_calls _ _ _ _ _ g1 (by omega)).mono ?_; rintro e w9 ⟨d, rfl, sd, dd, y9⟩)
          have b9 := b8.trans (y9.mono b8.size)
          have dr9 := dr8.rd.below y9
          have ds9 := ds8.rd.below y9
          have g2 := g2.below y9
          have rd_ : r < d := Nat.lt_of_lt_of_le dr8.rd.lt sd
          have sd_ : s < d := Nat.lt_of_lt_of_le ds8.rd.lt sd
          clear dr8 ds8 y9 g1 b8
          go_upto_region 22 with (go_at_call 15; refine (New_calls _ _ _ _ _ g2 (by omega)).mono ?_; rintro e w10 ⟨e, rfl, se, de, y10⟩)
          have b10 := b9.trans (y10.mono b9.size)
          have de_ : d < e := Nat.lt_of_lt_of_le dd.lt se
          have F : Four w10 r d s e xs1 xs2 := ⟨⟨0, 0, dr9.below y10, dd.below y10, by omega⟩, ⟨0, 0, ds9.below y10, de, by omega⟩, by omega, by omega, by omega, by omega⟩
          have e_w : w.heap.size ≤ d := Nat.le_trans rw_ (Nat.le_of_lt rd_)
          have e_w2 : w.heap.size ≤ e := Nat.le_trans e_w (Nat.le_of_lt de_)
          clear dr9 ds9 dd de y10 b9 g2 sd se
          have m3 : n3 ≤ 9223372036854775807 := by have h1 := h3.le; have h2 := h3.mx; rw [maxLen_is] at h2; omega
          have B1 : xs1.length ≤ 140737488351232 := by rw [L1.out]; omega
          have B2 : xs2.length ≤ 140737488351232 := by rw [L2.out]; omega
          have z0 : I64 0 := by unfold I64; omega
          go_wp2
          go_loopw [18] (fun ii wr => ∃ (i : Nat), i ≤ n3 ∧ i ≤ 2000 ∧ ii = .int .i64 (i : Int) ∧ Four wr r d s e xs1 xs2 ∧ Below w.heap.size w wr)
            (fun ii _ => 2000 - (intOf ii).toNat)
          case atStart => exact ⟨0, by omega, by omega, rfl, F, b10⟩
          case round =>
            clear F b10
            obtain ⟨i, hi, hi2, rfl, F, b⟩ := hrel
            have bs := b.size
            by_cases hend : i < n3 ∧ i < 2000
            · obtain ⟨hlt, h20⟩ := hend
              obtain ⟨ad, K, N, sec, rfl, _, c0, c1', c2', hN⟩ := (h3.below b).cell i hlt
              have j1 : (i : Int) < (n3 : Int) := by omega
              have j2 : (i : Int) < 2000 := by omega
              have c1 : wr.cell? ⟨(ad.add (i * 3)).block, (ad.add (i * 3)).off + 1, none⟩ = some (.int .i64 N) := by simpa only [Addr.add_succ'] using c1'
              have c2 : wr.cell? ⟨(ad.add (i * 3)).block, (ad.add (i * 3)).off + 2, none⟩ = some (.bool sec) := by simpa only [Addr.add_succ'] using c2'
              have hN : I64 N := hN
              clear c1' c2'
              cases sec
              · go_wp2_with (first
                  | (go_at_call 16; (with_reducible refine (step_four 7 0 false _ _ _ _ _ _ _ _ _ F2 B1 z0 b2 s2 rw_ e_w).mono ?_); rintro en w3 ⟨rfl, F3, b3, s3⟩)
                  | (go_at_call 16; (with_reducible refine (step_four 8 0 false _ _ _ _ _ _ _ _ _ F1 B1 z0 b1 s1 rw_ e_w).mono ?_); rintro en w2 ⟨rfl, F2, b2, s2'⟩; have s2 := Nat.le_trans s1 s2')
                  | (go_at_call 16; (with_reducible refine (step_four K N false _ _ _ _ _ _ _ _ _ F B1 hN b bs rw_ e_w).mono ?_); rintro en w1 ⟨rfl, F1, b1, s1'⟩; have s1 := Nat.le_trans bs s1'))
                go_roundw
                case rel => exact ⟨i + 1, by omega, by omega, by go_num, F3, b3⟩
                case measure => simp [intOf]; omega
              · go_wp2_with (first
                  | (go_at_call 16; (with_reducible refine (step_four 7 0 false _ _ _ _ _ _ _ _ _ F2 B2 z0 b2 s2 sw_ e_w2).mono ?_); rintro en w3 ⟨rfl, F3, b3, s3⟩)
                  | (go_at_call 16; (with_reducible refine (step_four 8 0 false _ _ _ _ _ _ _ _ _ F1 B2 z0 b1 s1 sw_ e_w2).mono ?_); rintro en w2 ⟨rfl, F2, b2, s2'⟩; have s2 := Nat.le_trans s1 s2')
                  | (go_at_call 16; (with_reducible refine (step_four K N true _ _ _ _ _ _ _ _ _ F.swap B2 hN b bs sw_ e_w2).mono ?_); rintro en w1 ⟨rfl, F1, b1, s1'⟩; have s1 := Nat.le_trans bs s1'))
                go_roundw
                case rel => exact ⟨i + 1, by omega, by omega, by go_num, F3.swap, b3⟩
                case measure => simp [intOf]; omega
            · have hend' : (i : Int) < (n3 : Int) → ¬ (i : Int) < 2000 := by intro a b; exact hend ⟨by omega, by omega⟩
              by_cases hlt : i < n3
              · obtain rfl : i = 2000 := by omega
                have j1 : (2000 : Int) < (n3 : Int) := by omega
                clear hend hend'
                go_wp2_with (first
                  | (go_at_call 16; (with_reducible refine (step_four 8 0 false _ _ _ _ _ _ _ _ _ F1.swap B2 z0 b1 s1 sw_ e_w2).mono ?_); rintro en w2 ⟨rfl, F2, b2, s2'⟩)
                  | (go_at_call 16; (with_reducible refine (step_four 8 0 false _ _ _ _ _ _ _ _ _ F B1 z0 b bs rw_ e_w).mono ?_); rintro en w1 ⟨rfl, F1, b1, s1'⟩; have s1 := Nat.le_trans bs s1'))
                go_ret
                exact ⟨rfl, b2⟩
              · obtain rfl : i = n3 := by omega
                clear hend hend'
                go_wp2_with (first
                  | (go_at_call 16; (with_reducible refine (step_four 8 0 false _ _ _ _ _ _ _ _ _ F1.swap B2 z0 b1 s1 sw_ e_w2).mono ?_); rintro en w2 ⟨rfl, F2, b2, s2'⟩)
                  | (go_at_call 16; (with_reducible refine (step_four 8 0 false _ _ _ _ _ _ _ _ _ F B1 z0 b bs rw_ e_w).mono ?_); rintro en w1 ⟨rfl, F1, b1, s1'⟩; have s1 := Nat.le_trans bs s1'))
                go_ret
                exact ⟨rfl, b2⟩
end Go.Proofs.Ytnhmilpnekfhmaa
