/- What branch.read computes (readS); branch.getKid. -/
import Derived.Test.YtmeakhiiebeneaaGreatDoorPc
import Derived.Test.YtmeakhiiebeneaaGreatDoorM4
import Derived.Test.YtmeakhiiebeneaaGreatDoorNB
namespace Go.Proofs.YtmeakhiiebeneaaGreatDoor
open Go.RowKit

def kidS (B : List UInt8) (at_ : Nat) (e : Int) : (Nat × Nat) × Nat × Int :=
  (((numS B at_ e 4).1, (numS B (numS B at_ e 4).2.1 (numS B at_ e 4).2.2 4).1), (numS B (numS B at_ e 4).2.1 (numS B at_ e 4).2.2 4).2)
def ki (k : Nat × Nat) : Int × Int := ((k.1 : Int), (k.2 : Int))
def strS (B : List UInt8) (at_ : Nat) (e : Int) : List UInt8 × Nat × Int := bytesS B (vS B at_ e).2.1 (vS B at_ e).2.2 ((min (vS B at_ e).1 4092 : Nat) : Int)
def sepsS (B pre : List UInt8) : Nat → Nat → Int → List (List UInt8) × List (Int × Int)
  | 0, _, _ => ([], [])
  | k + 1, at_, e =>
    if leftS B at_ e = 0 then ([], []) else
      ((pre ++ (strS B at_ e).1) :: (sepsS B pre k (kidS B (strS B at_ e).2.1 (strS B at_ e).2.2).2.1 (kidS B (strS B at_ e).2.1 (strS B at_ e).2.2).2.2).1,
        ki (kidS B (strS B at_ e).2.1 (strS B at_ e).2.2).1 :: (sepsS B pre k (kidS B (strS B at_ e).2.1 (strS B at_ e).2.2).2.1 (kidS B (strS B at_ e).2.1 (strS B at_ e).2.2).2.2).2)
set_option maxRecDepth 100000 in
theorem strS_len (B : List UInt8) (at_ : Nat) (e : Int) : (strS B at_ e).1.length ≤ 4092 := by
  unfold strS bytesS
  split
  · rw [List.length_take]; omega
  · exact Nat.zero_le _
set_option maxRecDepth 100000 in
theorem sepsS_few (B pre : List UInt8) (hp : pre.length ≤ 4092) (k : Nat) (at_ : Nat) (e : Int) : (sepsS B pre k at_ e).1.length ≤ k ∧ ∀ x ∈ (sepsS B pre k at_ e).1, x.length ≤ 10000 := by
  induction k generalizing at_ e with
  | zero => exact ⟨Nat.le_refl _, fun x hx => by cases hx⟩
  | succ k ih =>
    rw [sepsS]
    split
    · exact ⟨Nat.zero_le _, fun x hx => by cases hx⟩
    · obtain ⟨h1, h2⟩ := ih (kidS B (strS B at_ e).2.1 (strS B at_ e).2.2).2.1 (kidS B (strS B at_ e).2.1 (strS B at_ e).2.2).2.2
      refine ⟨by rw [List.length_cons]; omega, fun x hx => ?_⟩
      rcases List.mem_cons.1 hx with rfl | hx
      · have := strS_len B at_ e
        rw [List.length_append]; omega
      · exact h2 x hx
def kindS (B : List UInt8) : Nat × Nat × Int := numS B 0 0 1
def levS (B : List UInt8) : Nat × Nat × Int := numS B (kindS B).2.1 (kindS B).2.2 1
def cntS (B : List UInt8) : Nat × Nat × Int := numS B (levS B).2.1 (levS B).2.2 2
def preS (B : List UInt8) : List UInt8 × Nat × Int := strS B (cntS B).2.1 (cntS B).2.2
def skipS (B : List UInt8) : List UInt8 × Nat × Int := bytesS B (preS B).2.1 (preS B).2.2 (2 * (((cntS B).1 - 1 : Nat) : Int))
def fstS (B : List UInt8) : (Nat × Nat) × Nat × Int := kidS B (skipS B).2.1 (skipS B).2.2
def restS (B : List UInt8) : List (List UInt8) × List (Int × Int) := sepsS B (preS B).1 ((cntS B).1 - 1) (fstS B).2.1 (fstS B).2.2
set_option maxRecDepth 100000 in
theorem read_few (B : List UInt8) : Few (restS B).1.length (restS B).1 := by
  have h := sepsS_few B (preS B).1 (strS_len _ _ _) ((cntS B).1 - 1) (fstS B).2.1 (fstS B).2.2
  have h2 := numS_lt B (levS B).2.1 (levS B).2.2 2
  refine ⟨?_, h.2⟩
  have h1 := h.1
  have : (cntS B).1 < 65536 := h2
  unfold restS
  omega

set_option maxRecDepth 100000 in
theorem kid_cells {w : World} {g : Nat} {x y : Int} (h : OC w 124 2 g 1 1 [.int .i64 x, .int .i64 y]) : w.cell? ⟨g, 0, none⟩ = some (.int .i64 x) ∧ w.cell? ⟨g, 1, none⟩ = some (.int .i64 y) := by
  have hr := OC.read h
  exact ⟨RC.cell hr ⟨g, 0, none⟩ rfl 0 _ rfl, RC.cell hr ⟨g, 0, none⟩ rfl 1 _ rfl⟩
set_option maxRecDepth 100000 in
theorem info_kid2 : (Tryz.prog.info? 124).map (·.size) = some 2 := by kernel_rfl
set_option maxRecDepth 100000 in
theorem ret_kid {fn : Func} {R : Ending → World → Prop} {a : Act} {w : World} {g : Nat} {x y : Value} (q : OC w 124 2 g 1 1 [x, y]) (hres : fn.results = #[.cell 2 124]) (h2 : a.tmps.getD 2 undef = .pointer (some ⟨g, 0, none⟩)) (hd : a.defers = [])
    (hR : R (.returned (.agg #[x, y])) w) : bodyPost Tryz.prog fn R .ret a w := by
  obtain ⟨hl, cur, hg, r1, r2, r3, r4⟩ := OC.block q
  have e : cur = #[x, y] := by
    apply Array.ext'
    rw [List.take_of_length_le (by rw [Array.length_toList, r3]; exact Nat.le_refl _)] at r4
    exact r4
  subst e
  exact bodyPost_ret (results_cell_row hres _ _ g _ _ _ _ h2 hg Tryz.underlying124 rfl info_kid2) hd hR
set_option maxRecDepth 100000 in
theorem num4 (B : List UInt8) (at_ : Nat) (e : Int) : ∃ x a f, numS B at_ e 4 = (x, a, f) ∧ x < 4294967296 := ⟨_, _, _, rfl, numS_lt B at_ e 4⟩
set_option maxRecDepth 100000 in
set_option maxHeartbeats 1000000 in
theorem getKid_calls (r : Nat) (B : List UInt8) (at_ : Nat) (er : Int) (w : World) (h : Rd w r B at_ er) :
    Calls Tryz.prog 179 #[.pointer (some ⟨r, 0, none⟩)] w fun en w' => en = .returned (.agg #[.int .i64 (ki (kidS B at_ er).1).1, .int .i64 (ki (kidS B at_ er).1).2]) ∧ Rd w' r B (kidS B at_ er).2.1 (kidS B at_ er).2.2 ∧ w.grownBy w' (some r) := by
  have G1 := fun W q => Get32_any r B at_ er W q
  obtain ⟨x, a, f, e1, hx⟩ := num4 B at_ er
  obtain ⟨y, a2, f2, e2, hy⟩ := num4 B a f
  have G2 := fun W q => Get32_any r B a f W q
  unfold kidS ki
  rw [e1]
  simp only
  rw [e2]
  rw [e1] at G1
  rw [e2] at G2
  simp only at G1 G2 ⊢
  clear e1 e2
  have ba := below1 w (.cells #[.int .i64 0, .int .i64 0] 124)
  have h0 := h.below ba
  have hrl := h.lt
  have ok : OC (w.alloc (.cells #[.int .i64 0, .int .i64 0] 124)) 124 2 w.heap.size 1 1 [.int .i64 0, .int .i64 0] := OC.mk rfl _ (heap_alloc_new w _) (Nat.le_refl _) (by rw [maxLen_is]; omega) rfl rfl
  have k0 := World.grownBy_alloc w (.cells #[.int .i64 0, .int .i64 0] 124) (some r)
  go_enter Tryz.func179, Tryz.ntmps179
  go_upto_region 2 with (go_at_call 95; refine (G1 _ h0).mono ?_; rintro en w1 ⟨rfl, d1, k1⟩)
  have ne : some w.heap.size ≠ some r := by simp only [ne_eq, Option.some.injEq]; omega
  have ok1 := ok.same (Sm.of_grown k1 ok.lt ne)
  clear ok h0 ba
  go_wp2_with (go_at_call 95; refine (G2 _ d1).mono ?_; rintro en w2 ⟨rfl, d2, k2⟩; have ok2 := ok1.same (Sm.of_grown k2 ok1.lt ne); have f0 := ok2.free 0; have f1 := ok2.free 1; obtain ⟨c0, c1⟩ := kid_cells ok2)
  have ok3 := (ok2.set 0 (.int .i64 (x : Int))).set 1 (.int .i64 (y : Int))
  have k4 := (grownBy_set w2 w.heap.size 0 (.int .i64 (x : Int))).trans (grownBy_set _ w.heap.size 1 (.int .i64 (y : Int)))
  have d4 := d2.above k4 hrl
  refine ret_kid ok3 rfl rfl rfl ⟨rfl, d4, ?_⟩
  have kk := (k0.trans k1).trans k2
  exact ⟨k4.os.trans kk.os, k4.tape.trans kk.tape, k4.output.trans kk.output, Nat.le_trans kk.size k4.size, fun j hj hne => (k4.block j (Nat.lt_of_lt_of_le hj kk.size) (by simp only [ne_eq, Option.some.injEq]; omega)).trans (kk.block j hj hne)⟩
end Go.Proofs.YtmeakhiiebeneaaGreatDoor
/- branch.read. -/
namespace Go.Proofs.YtmeakhiiebeneaaGreatDoor
open Go.RowKit

set_option maxRecDepth 100000 in
theorem Rd.under_gc {w w' : World} {r at_ : Nat} {B : List UInt8} {er : Int} {base e sz n c : Nat} {A : Option Addr} {cs : List Value} (q : Rd w r B at_ er) (h : GC w base e sz A n c cs) (hr : r < base) (gx : w.grownBy w' (A.map (·.block))) : Rd w' r B at_ er := by
  rcases h.oc with ⟨rfl, rfl, rfl, rfl⟩ | ⟨g, rfl, hb, o⟩
  · exact q.keep fun k hk => Sm.of_grown gx hk (by simp)
  · exact q.above gx (by show r < g; omega)
set_option maxRecDepth 100000 in
theorem OM.grown_lt {w w' : World} {base n c r : Nat} {A : Option Addr} {ps : List (Option Addr × Nat × Nat)} {xss : List (List UInt8)} (h : OM w base A n c ps xss) (gx : w.grownBy w' (some r)) (hr : r < base) : OM w' base A n c ps xss :=
  ⟨GC.grown_lt h.row gx hr, h.len, fun j p xs h1 h2 => GC.grown_lt (h.each j p xs h1 h2) gx hr, h.inc⟩
set_option maxRecDepth 100000 in
theorem OM.apart {w w' : World} {base base' n c e sz n' c' : Nat} {A A' : Option Addr} {ps : List (Option Addr × Nat × Nat)} {xss : List (List UInt8)} {cs : List Value} (h : OM w base A n c ps xss) (k : GC w base' e sz A' n' c' cs) (gx : w.grownBy w' (A'.map (·.block))) (ne1 : 40 ≠ e) (ne2 : 5 ≠ e) : OM w' base A n c ps xss :=
  ⟨GC.apart h.row k gx ne1, h.len, fun j p xs h1 h2 => GC.apart (h.each j p xs h1 h2) k gx ne2, h.inc⟩
set_option maxRecDepth 100000 in
theorem min_u64 (x n : Nat) (h : min x 4092 = n) (ts : Array TypeId) (t : TypeId) (w : World) : (Builtin.min_ ts t #[.int .u64 (x : Int), .int .u64 4092]).run Tryz.prog w = .ok (.int .u64 (n : Int)) w := by
  rw [run_min_int2]; split <;> (congr 2; omega)
set_option maxRecDepth 100000 in
theorem max_0 (x n : Nat) (h : x - 1 = n) (ts : Array TypeId) (t : TypeId) (w : World) : (Builtin.max_ ts t #[.int .i64 0, .int .i64 ((x : Int) - 1)]).run Tryz.prog w = .ok (.int .i64 (n : Int)) w := by
  rw [run_max_int2]; split <;> (congr 2; omega)
set_option maxRecDepth 100000 in
theorem kid_new (w : World) (x y : Int) : GK (w.alloc (.cells #[.int .i64 x, .int .i64 y] 124)) w.heap.size (some ⟨w.heap.size, 0, none⟩) 1 1 [(x, y)] :=
  GC.of (OC.mk rfl _ (heap_alloc_new w _) (Nat.le_refl _) (by rw [maxLen_is]; omega) rfl rfl) (Nat.le_refl _)

set_option maxRecDepth 100000 in
theorem kid_parts (B : List UInt8) (at_ : Nat) (e : Int) : ∃ x y a f, kidS B at_ e = ((x, y), a, f) ∧ x < 4294967296 ∧ y < 4294967296 := ⟨_, _, _, _, rfl, numS_lt B _ _ 4, numS_lt B _ _ 4⟩

set_option maxRecDepth 100000 in
set_option maxHeartbeats 2000000 in
theorem read_calls (A : Option Addr) (n c : Nat) (B : List UInt8) (w : World) (h : RB w A n c B) (hb : n ≤ 140737488355328) :
    Calls Tryz.prog 104 #[.slice A n c] w fun en w' => ∃ (A1 : Option Addr) (n1 c1 : Nat) (ps : List (Option Addr × Nat × Nat)) (A2 : Option Addr) (n2 c2 : Nat), en = .returned (.tuple #[.int .i64 ((levS B).1 : Nat), .slice A1 n1 c1, .slice A2 n2 c2]) ∧ OM w' w.heap.size A1 n1 c1 ps (restS B).1 ∧ GK w' w.heap.size A2 n2 c2 (ki (fstS B).1 :: (restS B).2) ∧ Below w.heap.size w w' := by
  obtain ⟨x1, a1, e1, E1⟩ : ∃ x a e, numS B 0 0 1 = (x, a, e) := ⟨_, _, _, rfl⟩
  have G1 := fun r W q => Get8_any r B 0 0 W q
  rw [E1] at G1
  have hk : kindS B = (x1, a1, e1) := E1
  obtain ⟨x2, a2, e2, E2⟩ : ∃ x a e, numS B a1 e1 1 = (x, a, e) := ⟨_, _, _, rfl⟩
  have l2 : x2 < 256 := by have := numS_lt B a1 e1 1; rw [E2] at this; exact this
  have G2 := fun r W q => Get8_any r B a1 e1 W q
  rw [E2] at G2
  have hlev : levS B = (x2, a2, e2) := by unfold levS; rw [hk]; exact E2
  obtain ⟨n0, a3, e3, E3⟩ : ∃ x a e, numS B a2 e2 2 = (x, a, e) := ⟨_, _, _, rfl⟩
  have l3 : n0 < 65536 := by have := numS_lt B a2 e2 2; rw [E3] at this; exact this
  have G3 := fun r W q => Get16_any r B a2 e2 W q
  rw [E3] at G3
  have hcnt : cntS B = (n0, a3, e3) := by unfold cntS; rw [hlev]; exact E3
  obtain ⟨xv, av, ev, EV⟩ : ∃ x a e, vS B a3 e3 = (x, a, e) := ⟨_, _, _, rfl⟩
  have G4 := fun r W q => V_any r B a3 e3 W q
  rw [EV] at G4
  obtain ⟨m4, hm4⟩ : ∃ m, min xv 4092 = m := ⟨_, rfl⟩
  have m4l : m4 ≤ 4092 := by omega
  obtain ⟨pre, a5, e5, E5⟩ : ∃ x a e, bytesS B av ev (m4 : Int) = (x, a, e) := ⟨_, _, _, rfl⟩
  have G5 := fun r W q => Bytes_any r B av ev (m4 : Int) W q (by omega)
  rw [E5] at G5
  have hpre : preS B = (pre, a5, e5) := by unfold preS strS; rw [hcnt]; simp only; rw [EV]; simp only; rw [hm4]; exact E5
  obtain ⟨N, hN⟩ : ∃ N, n0 - 1 = N := ⟨_, rfl⟩
  obtain ⟨sk, a6, e6, E6⟩ : ∃ x a e, bytesS B a5 e5 (2 * (N : Int)) = (x, a, e) := ⟨_, _, _, rfl⟩
  have G6 := fun r W q => Bytes_any r B a5 e5 (2 * (N : Int)) W q (by omega)
  rw [E6] at G6
  have hskip : skipS B = (sk, a6, e6) := by unfold skipS; rw [hpre, hcnt]; simp only; rw [hN]; exact E6
  obtain ⟨kx, ky, a7, e7, E7, l7, l8⟩ := kid_parts B a6 e6
  have G7 := fun r W q => getKid_calls r B a6 e6 W q
  rw [E7] at G7
  have hfst : fstS B = ((kx, ky), a7, e7) := by unfold fstS; rw [hskip]; exact E7
  have hrest : restS B = sepsS B pre N a7 e7 := by unfold restS; rw [hpre, hcnt, hfst]; simp only; rw [hN]
  have plen : pre.length ≤ 4092 := by
    have := strS_len B a3 e3
    unfold strS at this
    rw [EV] at this
    simp only at this
    rw [hm4, E5] at this
    exact this
  have hmin := min_u64 xv m4 hm4
  have hmax := max_0 n0 N hN
  rw [hlev, hfst, hrest]
  simp only [ki] at G1 G2 G3 G4 G5 G6 G7 ⊢
  obtain ⟨RS, hRS⟩ : ∃ RS, sepsS B pre N a7 e7 = RS := ⟨_, rfl⟩
  rw [hRS]
  have HRS := hideIt hRS
  have N65 : N < 65536 := by omega
  clear hk hlev hcnt hpre hskip hfst hrest hRS E1 E2 E3 EV E5 E6 E7 hm4 hN
  go_enter Tryz.func104, Tryz.ntmps104
  go_upto_region 2 with (go_at_call 23; refine (NewReader_calls _ _ _ _ _ h hb).mono ?_; rintro en w1 ⟨r, rfl, s1, d1, b1⟩)
  have lr := d1.lt
  go_upto_region 3 with (go_at_call 178; refine (G1 _ _ d1).mono ?_; rintro en w2 ⟨rfl, d2, k2⟩)
  go_upto_region 4 with (go_at_call 178; refine (G2 _ _ d2).mono ?_; rintro en w3 ⟨rfl, d3, k3⟩)
  go_upto_region 5 with (go_at_call 74; refine (G3 _ _ d3).mono ?_; rintro en w4 ⟨rfl, d4, k4⟩)
  go_upto_region 6 with (first
    | (go_at_call 75; refine (G4 _ _ d4).mono ?_; rintro en w5 ⟨rfl, d5, k5⟩)
    | (go_at_call 26; refine (G5 _ _ d5).mono ?_; rintro en w6 ⟨gp, L, rfl, s6, o6, d6, k6⟩))
  have b2 := blw_own b1 k2 b1.size s1
  have b3 := blw_own b2 k3 b2.size s1
  have b4 := blw_own b3 k4 b3.size s1
  have b5 := blw_own b4 k5 b4.size s1
  have b6 := blw_own b5 k6 b5.size s1
  have lr5 := d5.lt
  have gpr : r + 1 ≤ gp := Nat.le_trans lr5 s6
  have hL := o6.len
  have Ll : L ≤ 4092 := by omega
  have P6 : GB w6 (r + 1) (some ⟨gp, 0, none⟩) L L pre := GB.of o6 gpr
  clear G1 G2 G3 G4 G5 hmin b1 b2 b3 b4 b5 k2 k3 k4 k5 k6 s6 o6 d1 d2 d3 d4 d5 lr5 plen hL lr
  go_upto_region 7 with (go_at_call 26; refine (G6 _ _ d6).mono ?_; rintro en w7 ⟨gq, Lq, rfl, s7, o7, d7, k7⟩)
  have P7 := GC.grown_lt P6 k7 (Nat.lt_succ_self r)
  have b7 := blw_own b6 k7 b6.size s1
  clear G6 P6 b6 k7 s7 o7 d6
  go_upto_region 8 with (go_at_call 179; refine (G7 _ _ d7).mono ?_; rintro en w8 ⟨rfl, d8, k8⟩)
  have P8 := GC.grown_lt P7 k8 (Nat.lt_succ_self r)
  have b8 := blw_own b7 k8 b7.size s1
  clear G7 P7 b7 k8 d7
  have ba := below1 w8 (.cells #[.int .i64 (kx : Int), .int .i64 (ky : Int)] 124)
  have d9 := d8.below ba
  have P9 := P8.below ba
  have b9 := blw_step b8 ba
  have lr8 := d8.lt
  have K9 := GC.lower (kid_new w8 (kx : Int) (ky : Int)) (show r + 1 ≤ w8.heap.size from lr8)
  have lr9 := d9.lt
  clear ba d8 P8 b8
  have wr1 : w.heap.size ≤ r + 1 := Nat.le_succ_of_le s1
  have HR1 : Hid ([] ++ (sepsS B pre N a7 e7).1 = RS.1) := hideIt (by rw [HRS.out]; rfl)
  have HR2 : Hid ([] ++ (sepsS B pre N a7 e7).2 = RS.2) := hideIt (by rw [HRS.out]; rfl)
  go_wp2
  go_loopw [9, 10, 40] (fun k9 s10 ii wr => ∃ (i j a c9 c10 : Nat) (e : Int) (A9 A10 : Option Addr) (ps : List (Option Addr × Nat × Nat)) (ls : List (List UInt8)) (ks : List (Int × Int)), Hid (i + j = N) ∧ i ≤ N ∧ ii = .int .i64 (i : Int) ∧ s10 = .slice A10 i c10 ∧ k9 = .slice A9 (i + 1) c9 ∧ OM wr (r + 1) A10 i c10 ps ls ∧ GK wr (r + 1) A9 (i + 1) c9 (((kx : Int), (ky : Int)) :: ks) ∧ Hid (ls ++ (sepsS B pre j a e).1 = RS.1) ∧ Hid (ks ++ (sepsS B pre j a e).2 = RS.2) ∧ Rd wr r B a e ∧ GB wr (r + 1) (some ⟨gp, 0, none⟩) L L pre ∧ r < wr.heap.size ∧ Below w.heap.size w wr)
    (fun _ _ ii _ => N - (intOf ii).toNat)
  case atStart => exact ⟨0, N, a7, 1, 0, e7, some ⟨w8.heap.size, 0, none⟩, none, [], [], [], hideIt (Nat.zero_add N), by omega, rfl, rfl, rfl, OM.nil _ _, K9, HR1, HR2, d9, P9, lr9, b9⟩
  case round =>
    clear HRS HR1 HR2 K9 d9 P9 lr8 lr9 b9
    obtain ⟨i, j, a, c9, c10, e, A9, A10, ps, ls, ks, HIJ, hi, rfl, rfl, rfl, om, gk, H1, H2, R, P, lr, bw⟩ := hrel
    by_cases hlt : i < N
    · obtain ⟨j', rfl⟩ : ∃ j', j = j' + 1 := ⟨j - 1, by have := HIJ.out; omega⟩
      have LF := fun W q => Left_calls r B a e W q
      by_cases hz : leftS B a e = 0
      · have e0 : sepsS B pre (j' + 1) a e = ([], []) := by rw [sepsS, if_pos hz]
        rw [e0, List.append_nil] at H1 H2
        rw [hz] at LF
        have om' := om.lower wr1
        have gk' := GC.lower gk wr1
        rw [H1.out] at om'
        rw [H2.out] at gk'
        have i1 : (i : Int) < (N : Int) := by omega
        clear hz e0 H1 H2 om gk
        go_wp2_with (go_at_call 27; refine (LF _ R).mono ?_; rintro en wl ⟨rfl, q, rfl⟩)
        go_ret3
        have bl := below_drewN (Below.refl wr.heap.size wr) q
        exact ⟨_, _, _, ps, _, _, _, rfl, om'.below bl, gk'.below bl, blw_step bw bl⟩
      · obtain ⟨xv, av, ev, EV⟩ : ∃ x y z, vS B a e = (x, y, z) := ⟨_, _, _, rfl⟩
        have G4 := fun W q => V_any r B a e W q
        rw [EV] at G4
        obtain ⟨m4, hm4⟩ : ∃ m, min xv 4092 = m := ⟨_, rfl⟩
        have m4l : m4 ≤ 4092 := by omega
        obtain ⟨sx, ab, eb, E5⟩ : ∃ x a e, bytesS B av ev (m4 : Int) = (x, a, e) := ⟨_, _, _, rfl⟩
        have G5 := fun W q => Bytes_any r B av ev (m4 : Int) W q (by omega)
        rw [E5] at G5
        have hstr : strS B a e = (sx, ab, eb) := by unfold strS; rw [EV]; simp only; rw [hm4]; exact E5
        have slen := strS_len B a e
        rw [hstr] at slen
        simp only at slen
        obtain ⟨px, py, ac, ec, E7, l7', l8'⟩ := kid_parts B ab eb
        have G7 := fun W q => getKid_calls r B ab eb W q
        rw [E7] at G7
        have hmin := min_u64 xv m4 hm4
        have es : sepsS B pre (j' + 1) a e = ((pre ++ sx) :: (sepsS B pre j' ac ec).1, ((px : Int), (py : Int)) :: (sepsS B pre j' ac ec).2) := by
          rw [sepsS, if_neg hz, hstr]; simp only; rw [E7]; rfl
        rw [es] at H1 H2
        simp only at H1 H2
        have H1' : Hid (ls ++ [pre ++ sx] ++ (sepsS B pre j' ac ec).1 = RS.1) := by rw [List.append_assoc]; exact H1
        have H2' : Hid (ks ++ [((px : Int), (py : Int))] ++ (sepsS B pre j' ac ec).2 = RS.2) := by rw [List.append_assoc]; exact H2
        simp only [ki] at G4 G5 G7
        obtain ⟨lf, hlf⟩ : ∃ lf, leftS B a e = lf := ⟨_, rfl⟩
        rw [hlf] at LF
        have hlf0 : ((lf : Int) == 0) = false := beq_eq_false_iff_ne.2 (by omega)
        have i1 : (i : Int) < (N : Int) := by omega
        have hIJ' : Hid (i + 1 + j' = N) := hideIt (by have := HIJ.out; omega)
        clear hz hlf EV E5 E7 es H1 H2 hm4 hstr
        go_upto_region 12 with (go_at_call 27; refine (LF _ R).mono ?_; rintro en wl' ⟨rfl, q, rfl⟩)
        have bl := below_drewN (Below.refl wr.heap.size wr) q
        generalize wr.drewN q = wl at bl ⊢
        have om1 := om.below bl
        have gk1 := gk.below bl
        have R1 := R.below bl
        have P1 := P.below bl
        have b1 := blw_step bw bl
        have rl := R1.lt
        have zl := b1.size
        have HLO := hideIt om1.lt
        have pl := (P1.lt ⟨gp, 0, none⟩ rfl).1
        simp only at pl
        clear om gk R P bw bl lr LF hlf0
        go_upto_region 13 with (first
          | (at_make; refine wpB_make rfl _ _ rfl _ _ _ L rfl rfl rfl (by omega) ?_; intro g2 w2 s2 o2 k2; have b2 := below_of_grown k2 (Nat.le_refl _) (by simp); have P2 := (GB.read P1).below b2; have z2 := b2.size)
          | (with_reducible refine wpB_app rfl (.tmp 47) (.tmp 48) rfl _ _ _ _ rfl o2 _ _ _ _ rfl P2 L (by omega) (by omega) ?_; intro g3 c3 w3 q3 p3 o3 k3; have R3 := (R1.below b2).above k3 (Nat.lt_of_lt_of_le rl s2); have ne3 : some g3 ≠ some r := by simp only [ne_eq, Option.some.injEq]; omega)
          | (with_reducible refine wpB_app rfl (.tmp 49) (.tmp 55) rfl _ _ _ _ rfl O5 _ _ _ _ rfl o5.read (L + m5) rfl (by omega) ?_; intro g6 c6 w6 q6 p6 o6 k6)
          | (go_at_call 75; refine (G4 _ R3).mono ?_; rintro en w4 ⟨rfl, R4, k4⟩; have O4 := o3.same (Sm.of_grown k4 o3.lt ne3))
          | (go_at_call 26; refine (G5 _ R4).mono ?_; rintro en w5 ⟨gs, m5, rfl, s5, o5, R5, k5⟩; have O5 := O4.same (Sm.of_grown k5 O4.lt ne3); have m5l := o5.len))
        rw [List.nil_append] at o3 O4 O5 o6
        have g2l : wl.heap.size ≤ g2 := s2
        have g3l : wl.heap.size ≤ g3 := by
          rcases q3 with rfl | q3
          · exact g2l
          · exact Nat.le_trans z2 q3
        have g6l : wl.heap.size ≤ g6 := by
          rcases q6 with rfl | q6
          · exact g3l
          · exact Nat.le_trans (Nat.le_trans z2 k3.size) (Nat.le_trans k4.size (Nat.le_trans k5.size q6))
        have bb3 : Below wl.heap.size wl w3 := blw_own b2 k3 z2 g2l
        have om3 := om1.below bb3
        have gk3 := gk1.below bb3
        have P3 := P1.below bb3
        have om4 := om3.grown_lt k4 (Nat.lt_succ_self r)
        have gk4 := GC.grown_lt gk3 k4 (Nat.lt_succ_self r)
        have P4 := GC.grown_lt P3 k4 (Nat.lt_succ_self r)
        have om5 := om4.grown_lt k5 (Nat.lt_succ_self r)
        have gk5 := GC.grown_lt gk4 k5 (Nat.lt_succ_self r)
        have P5 := GC.grown_lt P4 k5 (Nat.lt_succ_self r)
        have om6 := om5.under k6 (fun p hp ad q => by have := HLO.out p hp ad q; omega) O5 (by decide)
        have gk6 := GC.apart gk5 (GC.of O5 (Nat.zero_le g3)) k6 (by decide)
        have P6 : GB w6 (r + 1) (some ⟨gp, 0, none⟩) L L pre := GC.same P5 (fun ad q => by
          cases q
          have hb := z2
          have h3 := k3.size
          have h4 := k4.size
          have h5 := k5.size
          exact Sm.of_grown k6 (show gp < w5.heap.size by omega) (by simp only [ne_eq, Option.some.injEq]; omega))
        have R6 := R5.above k6 (Nat.lt_of_lt_of_le rl g3l)
        have S6 : GB w6 wl.heap.size (some ⟨g6, 0, none⟩) (L + m5) c6 (pre ++ sx) := GB.of o6 g6l
        have wg3 : w.heap.size ≤ g3 := Nat.le_trans zl g3l
        have bA := blw_step b1 bb3
        have bB := blw_own bA k4 bA.size s1
        have bC := blw_own bB k5 bB.size s1
        have b6 := blw_own bC k6 bC.size wg3
        have r6 : r + 1 ≤ w6.heap.size := R6.lt
        clear om1 gk1 P1 R1 b1 b2 P2 R3 R4 R5 O4 O5 o3 o5 o2 k2 k3 k4 k5 k6 bb3 om3 gk3 P3 om4 gk4 P4 om5 gk5 P5 bA bB bC q3 p3 q6 p6 s5 ne3 G4 G5 hmin o6
        have ba := below1 w6 (.cells #[.slice (some ⟨g6, 0, none⟩) (L + m5) c6] 40)
        have om7 := om6.below ba
        have gk7 := gk6.below ba
        have P7 := P6.below ba
        have R7 := R6.below ba
        have S7 := S6.below ba
        have b7 := blw_step b6 ba
        have RS7 := sv_cell w6 (some ⟨g6, 0, none⟩, L + m5, c6)
        have r7 := Nat.le_trans r6 ba.size
        clear om6 gk6 P6 R6 S6 b6 ba r6
        go_upto_region 14 with (with_reducible refine wpM_app rfl (.tmp 57) (.tmp 59) rfl (r + 1) _ _ _ _ rfl om7.row _ (some ⟨g6, 0, none⟩, L + m5, c6) rfl RS7 (by omega) r7 ?_; intro g8 c8 w8' q8 o8 k8)
        have om8 := om7.push S7 HLO.out rl k8 o8 q8
        have gk8 := GC.apart gk7 om7.row k8 (by decide)
        have P8 := GC.apart P7 om7.row k8 (by decide)
        have R8 := R7.under_gc om7.row (Nat.lt_succ_self r) k8
        have b8 := GC.under (GC.lower om7.row wr1) b7 k8 b7.size
        clear om7 gk7 P7 R7 S7 b7 RS7 r7 o8 k8 HLO
        go_upto_region 15 with (first
          | (with_reducible refine wpK_app rfl (.tmp 61) (.tmp 64) rfl (r + 1) _ _ _ _ rfl gk10 _ ((px : Int), (py : Int)) rfl K10 (by omega) r10 ?_; intro g11 c11 w11 q11 gk11 k11)
          | (go_at_call 179; refine (G7 _ R8).mono ?_; rintro en w9 ⟨rfl, R9, k9⟩; have om9 := om8.grown_lt k9 (Nat.lt_succ_self r); have gk9 := GC.grown_lt gk8 k9 (Nat.lt_succ_self r); have P9 := GC.grown_lt P8 k9 (Nat.lt_succ_self r); have b9 := blw_own b8 k9 b8.size s1; have ba := below1 w9 (.cells #[.int .i64 (px : Int), .int .i64 (py : Int)] 124); have om10 := om9.below ba; have gk10 : GK _ (r + 1) A9 (i + 1) c9 (((kx : Int), (ky : Int)) :: ks) := GC.below gk9 ba; have P10 := GC.below P9 ba; have R10 := R9.below ba; have b10 := blw_step b9 ba; have K10 := RK.one w9 (px : Int) (py : Int); have r10 : r + 1 ≤ _ := R10.lt))
        have om11 := om10.apart gk10 k11 (by decide) (by decide)
        have P11 := GC.apart P10 gk10 k11 (by decide)
        have R11 := R10.under_gc gk10 (Nat.lt_succ_self r) k11
        have b11 := GC.under (GC.lower gk10 wr1) b10 k11 b10.size
        have r11 := R11.lt
        clear om8 gk8 P8 R8 b8 om9 gk9 P9 b9 om10 gk10 P10 R10 b10 K10 r10 ba k9 R9 k11
        go_wp2
        go_roundw
        case rel => exact ⟨i + 1, j', ac, c11, c8, ec, _, _, _, _, _, hIJ', by omega, by go_num, rfl, rfl, om11, gk11, H1', H2', R11, P11, r11, b11⟩
        case measure => simp [intOf]; omega
    · obtain rfl : N = i := by omega
      obtain rfl : j = 0 := by have := HIJ.out; omega
      have om' := om.lower wr1
      have gk' := GC.lower gk wr1
      rw [sepsS, List.append_nil] at H1 H2
      rw [H1.out] at om'
      rw [H2.out] at gk'
      clear H1 H2 om gk
      go_wp2
      go_ret3
      exact ⟨_, _, _, ps, _, _, _, rfl, om', gk', bw⟩
end Go.Proofs.YtmeakhiiebeneaaGreatDoor
