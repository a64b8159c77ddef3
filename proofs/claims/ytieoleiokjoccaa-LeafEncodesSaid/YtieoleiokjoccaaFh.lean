/- (*leaf.reader).item. -/
import Derived.Test.YtieoleiokjoccaaFg
import Derived.Test.YtieoleiokjoccaaWo
import Derived.Test.YtieoleiokjoccaaVc
import Derived.Test.YtieoleiokjoccaaWs
import Derived.Test.YtieoleiokjoccaaWg16
import Derived.Test.YtieoleiokjoccaaWg32
namespace Go.Proofs.Ytieoleiokjoccaa
open Go.RowKit

/-- A leaf's reader: a block with the pointer to a reader, and the prefix. -/
structure LR (w : World) (g r : Nat) (A : Option Addr) (n c : Nat) : Prop where
  c0 : w.cell? ⟨g, 0, none⟩ = some (.pointer (some ⟨r, 0, none⟩))
  c1 : w.cell? ⟨g, 1, none⟩ = some (.slice A n c)
  lt : g < w.heap.size
  ne : r < g
theorem LR.same {w w' : World} {g r n c : Nat} {A : Option Addr} (h : LR w g r A n c) (s : Sm w w' g) (z : w.heap.size ≤ w'.heap.size) : LR w' g r A n c :=
  ⟨(World.cell?_of_block (w := w) (a := ⟨g, 0, none⟩) s).trans h.c0, (World.cell?_of_block (w := w) (a := ⟨g, 1, none⟩) s).trans h.c1, Nat.lt_of_lt_of_le h.lt z, h.ne⟩
theorem LR.below {w w' : World} {g r n c : Nat} {A : Option Addr} (h : LR w g r A n c) (b : Below w.heap.size w w') : LR w' g r A n c := h.same (Sm.of_below b h.lt) b.size
theorem LR.grown {w w' : World} {g r n c : Nat} {A : Option Addr} (h : LR w g r A n c) (k : w.grownBy w' (some r)) : LR w' g r A n c := h.same (Sm.of_grown k h.lt (by have := h.ne; simp only [ne_eq, Option.some.injEq]; omega)) k.size
theorem LR.above {w w' : World} {g r n c k : Nat} {A : Option Addr} (h : LR w g r A n c) (gx : w.grownBy w' (some k)) (hk : g < k) : LR w' g r A n c := h.same (Sm.of_grown gx h.lt (by simp only [ne_eq, Option.some.injEq]; omega)) gx.size
theorem OC.item4 {w : World} {g : Nat} {x y z u : Value} (q : OC w 48 4 g 1 1 [x, y, z, u]) : w.cell? ⟨g, 0, none⟩ = some x ∧ w.cell? ⟨g, 1, none⟩ = some y ∧ w.cell? ⟨g, 2, none⟩ = some z ∧ w.cell? ⟨g, 3, none⟩ = some u :=
  ⟨q.read.cell ⟨g, 0, none⟩ rfl 0 _ rfl, q.read.cell ⟨g, 0, none⟩ rfl 1 _ rfl, q.read.cell ⟨g, 0, none⟩ rfl 2 _ rfl, q.read.cell ⟨g, 0, none⟩ rfl 3 _ rfl⟩
theorem info_item2 : (Try.prog.info? 48).map (·.size) = some 4 := by kernel_rfl
theorem ret_item {fn : Func} {R : Ending → World → Prop} {a : Act} {w : World} {g s : Nat} {x y z u : Value} (q : OC w 48 4 g 1 1 [x, y, z, u]) (hres : fn.results = #[.cell s 48]) (h2 : a.tmps.getD s undef = .pointer (some ⟨g, 0, none⟩)) (hd : a.defers = [])
    (hR : R (.returned (.agg #[x, y, z, u])) w) : bodyPost Try.prog fn R .ret a w := by
  obtain ⟨hl, cur, hg, r1, r2, r3, r4⟩ := OC.block q
  have e : cur = #[x, y, z, u] := by
    apply Array.ext'
    rw [List.take_of_length_le (by rw [Array.length_toList, r3]; exact Nat.le_refl _)] at r4
    exact r4
  subst e
  exact bodyPost_ret (results_cell_row hres _ _ g _ _ _ _ h2 hg Try.underlying48 rfl info_item2) hd hR
theorem min_u64T (x n : Nat) (h : min x 4092 = n) (ts : Array TypeId) (t : TypeId) (w : World) : (Builtin.min_ ts t #[.int .u64 (x : Int), .int .u64 4092]).run Try.prog w = .ok (.int .u64 (n : Int)) w := by
  rw [run_min_int2]; split <;> (congr 2; omega)
theorem RM.twoT {w : World} {A A' : Option Addr} {n c n' c' : Nat} {s s' : List UInt8} {R : Addr} (hr : RC w 1 (some R) 2 2 [.slice A n c, .slice A' n' c']) (h : RB w A n c s) (h' : RB w A' n' c' s') : RM w (some R) 2 2 [.slice A n c, .slice A' n' c'] [s, s'] :=
  ⟨hr, rfl, fun j xs hj => by
    match j with
    | 0 => simp at hj; subst hj; exact ⟨A, n, c, rfl, h⟩
    | 1 => simp at hj; subst hj; exact ⟨A', n', c', rfl, h'⟩
    | j + 2 => simp at hj⟩
/-- What item answers. -/
def ItemOut (B : List UInt8) (r : Nat) (x : It) (at_ : Nat) (e : Int) (w : World) (en : Ending) (w' : World) : Prop :=
  ∃ (p q : Option Addr × Nat × Nat), en = .returned (.agg #[sv p, sv q, .int .i64 x.s, .int .i64 x.f]) ∧ GB w' w.heap.size p.1 p.2.1 p.2.2 x.k ∧ GB w' w.heap.size q.1 q.2.1 q.2.2 x.v ∧ Before p q ∧ Rd w' r B at_ e ∧ w.grownBy w' (some r)

theorem gb_other {w w' : World} {base n c g e sz n' c' : Nat} {A : Option Addr} {xs : List UInt8} {cs : List Value} (h : GB w base A n c xs) (k : w.grownBy w' (some g)) (o : OC w e sz g n' c' cs) (ne : 5 ≠ e := by decide) : GB w' base A n c xs := by
  rcases GC.oc h with ⟨rfl, rfl, rfl, hcs⟩ | ⟨g1, rfl, hb, o1⟩
  · have : xs = [] := by cases xs with | nil => rfl | cons x t => simp [u8s] at hcs
    subst this
    exact GB.none_ _ _
  · exact GC.of (o1.same (Sm.of_grown k o1.lt (by
      simp only [ne_eq, Option.some.injEq]
      rintro rfl
      exact ne (OC.tyy o1 o)))) hb
theorem grown_over {w w1 w2 : World} {r : Option Nat} {g : Nat} (h : w.grownBy w1 r) (k : w1.grownBy w2 (some g)) (hg : w.heap.size ≤ g) : w.grownBy w2 r :=
  ⟨k.os.trans h.os, k.tape.trans h.tape, k.output.trans h.output, Nat.le_trans h.size k.size, fun j hj hne => (k.block j (Nat.lt_of_lt_of_le hj h.size) (by simp only [ne_eq, Option.some.injEq]; omega)).trans (h.block j hj hne)⟩
theorem item_fin {w w8 : World} {r a : Nat} {B : List UInt8} {e : Int} {x : It} {p q : Option Addr × Nat × Nat} {y0 y1 y2 y3 : Value} (rl : r < w.heap.size) (oi : OC w8 48 4 w.heap.size 1 1 [y0, y1, y2, y3]) (kk : w.grownBy w8 (some r)) (h : Rd w8 r B a e) (o1 : GB w8 w.heap.size p.1 p.2.1 p.2.2 x.k) (o2 : GB w8 w.heap.size q.1 q.2.1 q.2.2 x.v) (hpq : Before p q) :
    OC ((((w8.setCell ⟨w.heap.size, 0, none⟩ (.slice p.1 p.2.1 p.2.2)).setCell ⟨w.heap.size, 1, none⟩ (.slice q.1 q.2.1 q.2.2)).setCell ⟨w.heap.size, 2, none⟩ (.int .i64 x.s)).setCell ⟨w.heap.size, 3, none⟩ (.int .i64 x.f)) 48 4 w.heap.size 1 1 [.slice p.1 p.2.1 p.2.2, .slice q.1 q.2.1 q.2.2, .int .i64 x.s, .int .i64 x.f] ∧
    ItemOut B r x a e w (.returned (.agg #[.slice p.1 p.2.1 p.2.2, .slice q.1 q.2.1 q.2.2, .int .i64 x.s, .int .i64 x.f])) ((((w8.setCell ⟨w.heap.size, 0, none⟩ (.slice p.1 p.2.1 p.2.2)).setCell ⟨w.heap.size, 1, none⟩ (.slice q.1 q.2.1 q.2.2)).setCell ⟨w.heap.size, 2, none⟩ (.int .i64 x.s)).setCell ⟨w.heap.size, 3, none⟩ (.int .i64 x.f)) := by
  have os := (((oi.set 0 (.slice p.1 p.2.1 p.2.2)).set 1 (.slice q.1 q.2.1 q.2.2)).set 2 (.int .i64 x.s)).set 3 (.int .i64 x.f)
  have gs := (((grownBy_set w8 w.heap.size 0 (.slice p.1 p.2.1 p.2.2)).trans (grownBy_set _ w.heap.size 1 (.slice q.1 q.2.1 q.2.2))).trans (grownBy_set _ w.heap.size 2 (.int .i64 x.s))).trans (grownBy_set _ w.heap.size 3 (.int .i64 x.f))
  exact ⟨os, p, q, rfl, gb_other o1 gs oi, gb_other o2 gs oi, hpq, h.above gs rl, grown_over kk gs (Nat.le_refl _)⟩

set_option maxRecDepth 100000 in
set_option maxHeartbeats 4000000 in
theorem item_calls (gl r : Nat) (A : Option Addr) (n c : Nat) (B pre : List UInt8) (at_ : Nat) (er : Int) (w : World) (h : Rd w r B at_ er) (hl : LR w gl r A n c) (hp : GB w (r + 1) A n c pre) (hpl : pre.length ≤ 4092) :
    Calls Try.prog 50 #[.pointer (some ⟨gl, 0, none⟩)] w (ItemOut B r (itemT B pre at_ er).1 (itemT B pre at_ er).2.1 (itemT B pre at_ er).2.2 w) := by
  obtain ⟨xv, a1, e1, E1⟩ : ∃ x a e, vS B at_ er = (x, a, e) := ⟨_, _, _, rfl⟩
  have G1 := fun W q => V_any r B at_ er W q
  rw [E1] at G1
  obtain ⟨m4, hm4⟩ : ∃ m, min xv 4092 = m := ⟨_, rfl⟩
  have m4l : m4 ≤ 4092 := by omega
  obtain ⟨rest, a2, e2, E2⟩ : ∃ x a e, bytesS B a1 e1 (m4 : Int) = (x, a, e) := ⟨_, _, _, rfl⟩
  have G2 := fun W q => Bytes_any r B a1 e1 (m4 : Int) W q (by omega)
  rw [E2] at G2
  have restl : rest.length ≤ 4092 := by
    have : (bytesS B a1 e1 (m4 : Int)).1.length ≤ 4092 := by
      unfold bytesS
      split
      · rw [List.length_take]; omega
      · exact Nat.zero_le _
    rw [E2] at this
    exact this
  obtain ⟨t, a3, e3, E3⟩ : ∃ x a e, vS B a2 e2 = (x, a, e) := ⟨_, _, _, rfl⟩
  have G3 := fun W q => V_any r B a2 e2 W q
  rw [E3] at G3
  have hI : itemT B pre at_ er = tailT B (pre ++ rest) t a3 e3 := by
    unfold itemT strT
    rw [E1]; simp only
    rw [hm4, E2]; simp only
    rw [E3]
  rw [hI]
  have hmin := min_u64T xv m4 hm4
  have wm : IntKind.i64.wrap (m4 : Int) = (m4 : Int) := IntWalk.i64_in _ (by omega)
  simp only at G1 G2 G3
  obtain ⟨R, hR⟩ : ∃ R, tailT B (pre ++ rest) t a3 e3 = R := ⟨_, rfl⟩
  rw [hR]
  have HR := hideIt hR
  clear hI hR E1 E2 E3 hm4
  have ba := below1 w (.cells #[.slice none 0 0, .slice none 0 0, .int .i64 0, .int .i64 0] 48)
  have h0 := h.below ba
  have hl0 := hl.below ba
  have hp0 := GB.below hp ba
  have rl := h.lt
  have glt := hl.lt
  have oi0 : OC (w.alloc (.cells #[.slice none 0 0, .slice none 0 0, .int .i64 0, .int .i64 0] 48)) 48 4 w.heap.size 1 1 [.slice none 0 0, .slice none 0 0, .int .i64 0, .int .i64 0] := OC.mk rfl _ (heap_alloc_new w _) (Nat.le_refl _) (by rw [maxLen_is]; omega) rfl rfl
  have k0 := World.grownBy_alloc w (.cells #[.slice none 0 0, .slice none 0 0, .int .i64 0, .int .i64 0] 48) (some r)
  clear ba h hl hp
  go_enter Try.func50, Try.ntmps50
  go_upto_region 1 with fail
  generalize hw0 : w.alloc (.cells #[.slice none 0 0, .slice none 0 0, .int .i64 0, .int .i64 0] 48) = w0 at h0 hl0 hp0 oi0 k0 ⊢
  clear hw0
  have h1 := h0.below (drew1 w0)
  have hl1 := hl0.below (drew1 w0)
  have hp1 := GB.below hp0 (drew1 w0)
  have oi1 := oi0.below (drew1 w0)
  have k1 : w.grownBy w0.drew (some r) := k0.trans (grownBy_drewN w0 1 (some r))
  have c1 := hl1.c0
  clear h0 hl0 hp0 oi0 k0
  go_region_held3 (fun w' => w'.cell? ⟨gl, 0, none⟩ = some (.pointer (some ⟨r, 0, none⟩))) (first | exact c1 | exact c2 | exact c3 | go_keep)
    (first
      | (go_at_call 47; (with_reducible refine (G2 _ h2).mono ?_); rintro en w3 ⟨gr, L, rfl, s3, o3, h3, k3⟩; have hl3 := hl2.grown k3; have c3 := hl3.c0)
      | (go_at_call 49; (with_reducible refine (G1 _ h1).mono ?_); rintro en w2 ⟨rfl, h2, k2⟩; have hl2 := hl1.grown k2; have c2 := hl2.c0))
  have hp3 : GB w3 (r + 1) A n c pre := GC.grown_lt (GC.grown_lt hp1 k2 (Nat.lt_succ_self r)) k3 (Nat.lt_succ_self r)
  have nex : some w.heap.size ≠ some r := by simp only [ne_eq, Option.some.injEq]; omega
  have oi3 := (oi1.same (Sm.of_grown k2 oi1.lt nex)).same (Sm.of_grown k3 (Nat.lt_of_lt_of_le oi1.lt k2.size) nex)
  have kk3 := (k1.trans k2).trans k3
  have cp3 := hl3.c1
  have ba := below1 w3 (.cells #[.slice A n c, .slice (some ⟨gr, 0, none⟩) L L] 34)
  have rr : RC (w3.alloc (.cells #[.slice A n c, .slice (some ⟨gr, 0, none⟩) L L] 34)) 1 (some ⟨w3.heap.size, 0, none⟩) 2 2 [.slice A n c, .slice (some ⟨gr, 0, none⟩) L L] :=
    OC.read (e := 34) (OC.mk rfl _ (heap_alloc_new w3 _) (Nat.le_refl _) (by rw [maxLen_is]; omega) rfl rfl)
  have rm := RM.twoT rr ((GB.read hp3).below ba) (o3.read.below ba)
  have CC := Concat_calls _ 2 2 _ [pre, rest] _ rm (by simp; omega) (by omega)
  have ef : [pre, rest].flatten = pre ++ rest := by simp
  rw [ef] at CC
  generalize pre ++ rest = key at CC HR
  have h4 := h3.below ba
  have hl4 := hl3.below ba
  have oi4 := oi3.below ba
  have kk4 := grown_below kk3 ba
  have sz3 : w.heap.size ≤ (w3.alloc (.cells #[.slice A n c, .slice (some ⟨gr, 0, none⟩) L L] 34)).heap.size := Nat.le_trans kk3.size ba.size
  clear hp1 k1 k2 k3 h1 h2 hl1 hl2 c1 c2 oi1 oi3 kk3 ba rr rm ef G1 G2 hmin wm s3 o3 h3 hl3 hp3
  go_upto_region 3 with (go_at_call 72; refine CC.mono ?_; rintro en w5 ⟨A5, n5, c5, rfl, o5, b5⟩)
  have h5 := h4.below b5
  have hl5 := hl4.below b5
  have oi5 := oi4.below b5
  have kk5 := grown_below kk4 b5
  have bx := below1 w5 (.cells #[.slice A5 n5 c5, .slice none 0 0, .int .i64 0, .int .i64 0] 48)
  have h6 := h5.below bx
  have hl6 := hl5.below bx
  have oi6 := oi5.below bx
  have kk6 := grown_below kk5 bx
  have o6 := GC.lower (GB.below o5 bx) sz3
  have ox6 : OC (w5.alloc (.cells #[.slice A5 n5 c5, .slice none 0 0, .int .i64 0, .int .i64 0] 48)) 48 4 w5.heap.size 1 1 [.slice A5 n5 c5, .slice none 0 0, .int .i64 0, .int .i64 0] := OC.mk rfl _ (heap_alloc_new w5 _) (Nat.le_refl _) (by rw [maxLen_is]; omega) rfl rfl
  have l1 : gl < w5.heap.size := hl5.lt
  have l2 : w.heap.size < w5.heap.size := oi5.lt
  have l3 : r < w5.heap.size := h5.lt
  generalize hw6 : w5.alloc (.cells #[.slice A5 n5 c5, .slice none 0 0, .int .i64 0, .int .i64 0] 48) = w6 at h6 hl6 oi6 kk6 o6 ox6 ⊢
  generalize w5.heap.size = gx at *
  clear hw6 bx b5 o5 h5 hl5 oi5 kk5 h4 hl4 oi4 kk4 cp3 c3 CC sz3 w5
  have c6 := hl6.c0
  have nx : some gx ≠ some r := by simp only [ne_eq, Option.some.injEq]; omega
  go_upto_region 4 with (go_at_call 49; refine (G3 _ h6).mono ?_; rintro en w7 ⟨rfl, h7, k7⟩)
  have hl7 := hl6.grown k7
  have oi7 := oi6.same (Sm.of_grown k7 oi6.lt nex)
  have ox7 := ox6.same (Sm.of_grown k7 ox6.lt nx)
  have kk7 := kk6.trans k7
  have o7 : GB w7 w.heap.size A5 n5 c5 key := GC.grown_lt o6 k7 rl
  have c7 := hl7.c0
  clear h6 hl6 oi6 ox6 kk6 o6 c6 k7 G3 w6
  by_cases ht : 524289 < t
  · have t1 : decide ((524289 : Int) < (t : Int)) = true := decide_eq_true (by omega)
    obtain ⟨b4, a4, e4, E4⟩ : ∃ x a e, bytesS B a3 e3 (-1) = (x, a, e) := ⟨_, _, _, rfl⟩
    have G4 := fun W q => Bytes_any r B a3 e3 (-1) W q (by omega)
    rw [E4] at G4
    have hR2 := HR.out
    unfold tailT at hR2
    rw [if_pos ht, E4] at hR2
    subst hR2
    simp only at G4 ⊢
    clear HR E4 ht
    go_wp2_with (go_at_call 47; refine (G4 _ h7).mono ?_; rintro en w8 ⟨g8, L8, rfl, s8, o8, h8, k8⟩; have ox8 := ox7.same (Sm.of_grown k8 ox7.lt nx); have oi8 := oi7.same (Sm.of_grown k8 oi7.lt nex); obtain ⟨z0, z1, z2, z3⟩ := ox8.item4; have f0 := oi8.free 0; have f1 := oi8.free 1; have f2 := oi8.free 2; have f3 := oi8.free 3; obtain ⟨y0, y1, y2, y3⟩ := oi8.item4)
    have o8 : GB w8 w.heap.size A5 n5 c5 key := GC.grown_lt o7 k8 rl
    have fin := item_fin (p := (A5, n5, c5)) (q := (none, 0, 0)) (x := ⟨key, [], 0, 0⟩) rl oi8 (kk7.trans k8) h8 o8 (GB.none_ _ _) (fun a b _ h => by cases h)
    exact ret_item fin.1 rfl rfl rfl fin.2
  · have t1 : decide ((524289 : Int) < (t : Int)) = false := decide_eq_false (by omega)
    have hR2 := HR.out
    unfold tailT at hR2
    rw [if_neg ht] at hR2
    obtain ⟨q, hq⟩ : ∃ q, t / 2 = q := ⟨_, rfl⟩
    rw [hq] at hR2
    have q1 : (t : Int) / 2 = (q : Int) := by omega
    have qb : q ≤ 262144 := by omega
    have wq : IntKind.i64.wrap (q : Int) = (q : Int) := IntWalk.i64_in _ (by omega)
    have fr := ox7.free 2
    have oxs := ox7.set 2 (.int .i64 (q : Int))
    simp only [List.set_cons_succ, List.set_cons_zero] at oxs
    have gs := grownBy_set w7 gx 2 (.int .i64 (q : Int))
    have h8 := h7.above gs l3
    have hl8 := hl7.above gs l1
    have oi8 := oi7.same (Sm.of_grown gs oi7.lt (by simp only [ne_eq, Option.some.injEq]; omega))
    have o8 := gb_other o7 gs ox7
    have kk8 : w.grownBy (w7.setCell ⟨gx, 2, none⟩ (.int .i64 (q : Int))) (some r) := grown_over kk7 gs (Nat.le_of_lt l2)
    have zc := ox7.item4
    obtain ⟨zz0, zz1, zz2, zz3⟩ := zc
    clear HR ht
    by_cases hr : t % 2 = 1
    · rw [if_pos hr] at hR2
      have r1 : (t : Int) % 2 = 1 := by omega
      clear hr hq
      obtain ⟨f, a4, e4, E4⟩ : ∃ x a e, numS B a3 e3 4 = (x, a, e) := ⟨_, _, _, rfl⟩
      have G4 := fun W q => Get32_any r B a3 e3 W q
      have fl : f < 4294967296 := by have := numS_lt B a3 e3 4; rw [E4] at this; exact this
      rw [E4] at G4 hR2
      subst hR2
      simp only at G4 ⊢
      have wf : IntKind.i64.wrap (f : Int) = (f : Int) := IntWalk.i64_in _ (by omega)
      clear E4
      go_upto_region 9 with fail
      clear q1 r1 zz0 zz1 zz2 zz3 gs h7 hl7 oi7 ox7 o7 kk7 fr c7
      generalize w7.setCell ⟨gx, 2, none⟩ (.int .i64 (q : Int)) = w8 at h8 hl8 oi8 o8 kk8 oxs ⊢
      have c8 := hl8.c0
      go_wp2_with (go_at_call 73; refine (G4 _ h8).mono ?_; rintro en w9 ⟨rfl, h9, k9⟩; have ox9 := oxs.same (Sm.of_grown k9 oxs.lt nx); have oi9 := oi8.same (Sm.of_grown k9 oi8.lt nex); obtain ⟨z0, z1, z2, z3⟩ := ox9.item4; have fr9 := ox9.free 3; have f0 := oi9.free 0; have f1 := oi9.free 1; have f2 := oi9.free 2; have f3 := oi9.free 3; obtain ⟨y0, y1, y2, y3⟩ := oi9.item4)
      have o9 : GB w9 w.heap.size A5 n5 c5 key := GC.grown_lt o8 k9 rl
      have gt := grownBy_set w9 gx 3 (.int .i64 (f : Int))
      have h10 := h9.above gt l3
      have oi10 := oi9.same (Sm.of_grown gt oi9.lt (by simp only [ne_eq, Option.some.injEq]; omega))
      have o10 := gb_other o9 gt ox9
      have kk10 : w.grownBy _ (some r) := grown_over (kk8.trans k9) gt (Nat.le_of_lt l2)
      have fin := item_fin (p := (A5, n5, c5)) (q := (none, 0, 0)) (x := ⟨key, [], (q : Int), (f : Int)⟩) rl oi10 kk10 h10 o10 (GB.none_ _ _) (fun a b _ h => by cases h)
      exact ret_item fin.1 rfl rfl rfl fin.2
    · rw [if_neg hr] at hR2
      have r1 : (t : Int) % 2 = 0 := by omega
      clear hr hq
      obtain ⟨v, a4, e4, E4⟩ : ∃ x a e, bytesS B a3 e3 (q : Int) = (x, a, e) := ⟨_, _, _, rfl⟩
      have G4 := fun W q' => Bytes_any r B a3 e3 (q : Int) W q' (by omega)
      rw [E4] at G4 hR2
      subst hR2
      simp only at G4 ⊢
      clear E4
      go_upto_region 10 with fail
      clear q1 r1 zz0 zz1 zz2 zz3 gs h7 hl7 oi7 ox7 o7 kk7 fr c7
      generalize w7.setCell ⟨gx, 2, none⟩ (.int .i64 (q : Int)) = w8 at h8 hl8 oi8 o8 kk8 oxs ⊢
      have h8d := h8.below (drew1 w8)
      have hl8d := hl8.below (drew1 w8)
      have oi8d := oi8.below (drew1 w8)
      have oxd := oxs.below (drew1 w8)
      have o8d := GB.below o8 (drew1 w8)
      have kk8d : w.grownBy w8.drew (some r) := kk8.trans (grownBy_drewN w8 1 (some r))
      have c8 := hl8d.c0
      obtain ⟨-, -, d2, -⟩ := oxd.item4
      clear h8 hl8 oi8 oxs o8 kk8
      go_region_held3 (fun w' => w'.cell? ⟨gl, 0, none⟩ = some (.pointer (some ⟨r, 0, none⟩)) ∧ w'.cell? ⟨gx, 2, none⟩ = some (.int .i64 (q : Int))) (first | exact ⟨c8, d2⟩ | exact ⟨c9, d9⟩ | exact ⟨e10, x12⟩ | go_keep)
        (first
          | (go_at_call 47; (with_reducible refine (G4 _ h8d).mono ?_); rintro en w9 ⟨g9, L9, rfl, s9, v9, h9, k9⟩; have hl9 := hl8d.grown k9; have ox9 := oxd.same (Sm.of_grown k9 oxd.lt nx); have c9 := hl9.c0; obtain ⟨m0, m1, d9, m3⟩ := ox9.item4; have fr9 := ox9.free 1; have gt := grownBy_set w9 gx 1 (.slice (some ⟨g9, 0, none⟩) L9 L9); have hl10 := hl9.above gt l1; have e10 := hl10.c0; have ox10 := ox9.set 1 (.slice (some ⟨g9, 0, none⟩) L9 L9); simp only [List.set_cons_succ, List.set_cons_zero] at ox10; obtain ⟨x10, x11, x12, x13⟩ := ox10.item4))
      have oi9 := oi8d.same (Sm.of_grown k9 oi8d.lt nex)
      have oi10 := oi9.same (Sm.of_grown gt oi9.lt (by simp only [ne_eq, Option.some.injEq]; omega))
      have o9 : GB w9 w.heap.size A5 n5 c5 key := GC.grown_lt o8d k9 rl
      have o10 := gb_other o9 gt ox9
      have v9b : GB w9 w.heap.size (some ⟨g9, 0, none⟩) L9 L9 v := GB.of v9 (Nat.le_trans kk8d.size s9)
      have v10 := gb_other v9b gt ox9
      have h10 := h9.above gt l3
      have kk10 : w.grownBy _ (some r) := grown_over (kk8d.trans k9) gt (Nat.le_of_lt l2)
      have hne : Before (A5, n5, c5) (some ⟨g9, 0, none⟩, L9, L9) := fun a b ha hb => by
        cases hb
        have := (GB.lt o8d a ha).1
        simp only
        omega
      clear c8 c9 d2 m0 m1 d9 m3 fr9 e10 hl10 hl9 ox9 h9 k9 oi9 o9 v9b v9 s9 h8d hl8d oi8d oxd o8d kk8d gt G4
      have f0 := oi10.free 0
      have f1 := oi10.free 1
      have f2 := oi10.free 2
      have f3 := oi10.free 3
      obtain ⟨y0, y1, y2, y3⟩ := oi10.item4
      generalize w9.setCell ⟨gx, 1, none⟩ (.slice (some ⟨g9, 0, none⟩) L9 L9) = wA at *
      go_wp2
      have fin := item_fin (p := (A5, n5, c5)) (q := (some ⟨g9, 0, none⟩, L9, L9)) (x := ⟨key, v, (q : Int), 0⟩) rl oi10 kk10 h10 o10 v10 hne
      exact ret_item fin.1 rfl rfl rfl fin.2
end Go.Proofs.Ytieoleiokjoccaa
