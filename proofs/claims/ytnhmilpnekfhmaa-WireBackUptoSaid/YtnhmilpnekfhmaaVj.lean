/- Two readers of the same bytes, ours and the document's; coppicelaw1.step. -/
import Derived.Test.YtnhmilpnekfhmaaVi
namespace Go.Proofs.Ytnhmilpnekfhmaa
open Go.RowKit

/-- Behind a call that writes at most two readers' blocks. -/
structure Fr (w w' : World) (r d : Nat) : Prop where
  os : w'.os = w.os
  tape : w'.tape = w.tape
  output : w'.output = w.output
  size : w.heap.size ≤ w'.heap.size
  keep : ∀ k, k < w.heap.size → k ≠ r → k ≠ d → Sm w w' k
theorem Fr.left {w w' : World} {r : Nat} (d : Nat) (h : w.grownBy w' (some r)) : Fr w w' r d := ⟨h.os, h.tape, h.output, h.size, fun k hk hr _ => h.block k hk (by simpa using hr)⟩
theorem Fr.right {w w' : World} {d : Nat} (r : Nat) (h : w.grownBy w' (some d)) : Fr w w' r d := ⟨h.os, h.tape, h.output, h.size, fun k hk _ hd => h.block k hk (by simpa using hd)⟩
theorem Fr.of_below {w w' : World} (r d : Nat) (h : Below w.heap.size w w') : Fr w w' r d := ⟨h.os, h.tape, h.output, h.size, fun k hk _ _ => h.block k hk⟩
theorem Fr.trans {w w1 w2 : World} {r d : Nat} (h : Fr w w1 r d) (k : Fr w1 w2 r d) : Fr w w2 r d :=
  ⟨k.os.trans h.os, k.tape.trans h.tape, k.output.trans h.output, Nat.le_trans h.size k.size, fun j hj hr hd => (h.keep j hj hr hd).trans (k.keep j (Nat.lt_of_lt_of_le hj h.size) hr hd)⟩
theorem Fr.drewN (w : World) (r d j : Nat) : Fr w (w.drewN j) r d := ⟨rfl, rfl, rfl, Nat.le_refl _, fun _ _ _ _ => rfl⟩
theorem Fr.to_below {B : Nat} {w0 w w' : World} {r d : Nat} (b : Below B w0 w) (h : Fr w w' r d) (hB : B ≤ w.heap.size) (hr : B ≤ r) (hd : B ≤ d) : Below B w0 w' :=
  ⟨h.os.trans b.os, h.tape.trans b.tape, h.output.trans b.output, Nat.le_trans b.size h.size, fun k hk => (show _ = _ from h.keep k (Nat.lt_of_lt_of_le hk hB) (by omega) (by omega)).trans (b.block k hk)⟩

/-- Reader r of ours and reader d of the document's stand alike. -/
structure Pair (w : World) (r d : Nat) (B : List UInt8) (at_ : Nat) (e : Int) : Prop where
  a : Rd w r B at_ e
  b : Rd w d B at_ e
  ne : r ≠ d
theorem Pair.below {w w' : World} {r d : Nat} {B : List UInt8} {at_ : Nat} {e : Int} (h : Pair w r d B at_ e) (b : Below w.heap.size w w') : Pair w' r d B at_ e := ⟨h.a.below b, h.b.below b, h.ne⟩
theorem Pair.drewN {w : World} {r d : Nat} {B : List UInt8} {at_ : Nat} {e : Int} (h : Pair w r d B at_ e) (j : Nat) : Pair (w.drewN j) r d B at_ e := ⟨h.a.drewN j, h.b.drewN j, h.ne⟩
/-- A block's type. -/
theorem OC.ty {w : World} {e e' sz sz' g n n' c c' : Nat} {cs cs' : List Value} (h : OC w e sz g n c cs) (k : OC w e' sz' g n' c' cs') : e = e' := by
  obtain ⟨_, cur, q1, _⟩ := OC.block h
  obtain ⟨_, cur', q2, _⟩ := OC.block k
  rw [q1] at q2
  injection q2 with q2
  injection q2
theorem Rd.frame {w w' : World} {s r d : Nat} {B B' : List UInt8} {at_ at' : Nat} {e e' : Int} (q : Rd w s B at_ e) (p : Pair w r d B' at' e') (f : Fr w w' r d) (h1 : s ≠ r) (h2 : s ≠ d) : Rd w' s B at_ e := by
  obtain ⟨t, gb, n, c, k1, k2, k3, k4, k5⟩ := q.row
  obtain ⟨t1, gb1, n1, c1, r1, r2, r3, r4, r5⟩ := p.a.row
  obtain ⟨t2, gb2, n2, c2, d1, d2, d3, d4, d5⟩ := p.b.row
  have m1 : gb ≠ r := by rintro rfl; exact r5.2 (OC.ty r1 k2)
  have m2 : gb ≠ d := by rintro rfl; exact d5.2 (OC.ty d1 k2)
  exact ⟨t, gb, n, c, k1.same (f.keep s k1.lt h1 h2), k2.same (f.keep gb k2.lt m1 m2), k3, k4, k5⟩
theorem Pair.frame {w w' : World} {s t r d : Nat} {B B' : List UInt8} {at_ at' : Nat} {e e' : Int} (q : Pair w s t B at_ e) (p : Pair w r d B' at' e') (f : Fr w w' r d) (h1 : s ≠ r) (h2 : s ≠ d) (h3 : t ≠ r) (h4 : t ≠ d) : Pair w' s t B at_ e :=
  ⟨q.a.frame p f h1 h2, q.b.frame p f h3 h4, q.ne⟩

/-- How a step ends. -/
def Stepped (w : World) (r d : Nat) (B : List UInt8) (en : Ending) (w' : World) : Prop := en = .returned (.bool true) ∧ (∃ at' e', Pair w' r d B at' e') ∧ Fr w w' r d
theorem num_quiet (k : Int) (w : World) (m : Nat) : Calls Try.prog 23 #[.int .i64 k] (w.drewN m) fun e w' => e = .returned (.int .i64 k) ∧ w' = w.drewN m :=
  (num_calls k _).mono fun _ _ ⟨h1, h2⟩ => ⟨h1, h2.symm⟩


set_option maxRecDepth 100000 in
set_option maxHeartbeats 4000000 in
theorem step1 (N : Int) (sec : Bool) (r d : Nat) (B : List UInt8) (at_ : Nat) (e : Int) (w : World) (hP : Pair w r d B at_ e) :
    Calls Try.prog 16 #[.agg #[.int .i64 1, .int .i64 N, .bool sec], .pointer (some ⟨r, 0, none⟩), .pointer (some ⟨d, 0, none⟩)] w (Stepped w r d B) := by
  have b0 := below1 w (.cells #[.int .i64 1, .int .i64 N, .bool sec] 34)
  have p1 := hP.below b0
  have f1 := Fr.of_below r d b0
  go_enter Try.func16, Try.ntmps16
  go_upto_region 3 with fail
  generalize w.alloc (.cells #[.int .i64 1, .int .i64 N, .bool sec] 34) = w1 at *
  clear b0 hP
  have G1 := Get8_any r B at_ e w1 p1.a
  have G2 := fun w2 q => rNum_any d B at_ 1 e w2 q (by omega)
  have lv := numS_lt B at_ e 1
  generalize numS B at_ e 1 = t at G1 G2 lv
  obtain ⟨v, a', e'⟩ := t
  simp only at G1 G2 lv
  have wv : IntKind.u64.wrap (v : Int) = (v : Int) := wrapu64_of v (Nat.lt_of_lt_of_le lv (by decide))
  clear lv
  go_upto_region 4 with (go_at_call 39; refine G1.mono ?_; rintro en w2 ⟨rfl, r2, g2⟩)
  have d2 := p1.b.other g2 p1.a (Ne.symm p1.ne)
  have f2 := f1.trans (Fr.left d g2)
  clear G1 g2 f1
  go_wp2_with (go_at_call 40; refine (G2 _ d2).mono ?_; rintro en w3 ⟨rfl, d3, g3⟩)
  go_ret
  exact ⟨ret_bool (by simp), ⟨a', e', r2.other g3 d2 p1.ne, d3, p1.ne⟩, f2.trans (Fr.right r g3)⟩

set_option maxRecDepth 100000 in
set_option maxHeartbeats 4000000 in
theorem step2 (N : Int) (sec : Bool) (r d : Nat) (B : List UInt8) (at_ : Nat) (e : Int) (w : World) (hP : Pair w r d B at_ e) :
    Calls Try.prog 16 #[.agg #[.int .i64 2, .int .i64 N, .bool sec], .pointer (some ⟨r, 0, none⟩), .pointer (some ⟨d, 0, none⟩)] w (Stepped w r d B) := by
  have b0 := below1 w (.cells #[.int .i64 2, .int .i64 N, .bool sec] 34)
  have p1 := hP.below b0
  have f1 := Fr.of_below r d b0
  go_enter Try.func16, Try.ntmps16
  go_upto_region 6 with fail
  generalize w.alloc (.cells #[.int .i64 2, .int .i64 N, .bool sec] 34) = w1 at *
  clear b0 hP
  have G1 := Get16_any r B at_ e w1 p1.a
  have G2 := fun w2 q => rNum_any d B at_ 2 e w2 q (by omega)
  have lv := numS_lt B at_ e 2
  generalize numS B at_ e 2 = t at G1 G2 lv
  obtain ⟨v, a', e'⟩ := t
  simp only at G1 G2 lv
  have wv : IntKind.u64.wrap (v : Int) = (v : Int) := wrapu64_of v (Nat.lt_of_lt_of_le lv (by decide))
  clear lv
  go_upto_region 7 with (go_at_call 29; refine G1.mono ?_; rintro en w2 ⟨rfl, r2, g2⟩)
  have d2 := p1.b.other g2 p1.a (Ne.symm p1.ne)
  have f2 := f1.trans (Fr.left d g2)
  clear G1 g2 f1
  go_wp2_with (go_at_call 40; refine (G2 _ d2).mono ?_; rintro en w3 ⟨rfl, d3, g3⟩)
  go_ret
  exact ⟨ret_bool (by simp), ⟨a', e', r2.other g3 d2 p1.ne, d3, p1.ne⟩, f2.trans (Fr.right r g3)⟩

set_option maxRecDepth 100000 in
set_option maxHeartbeats 4000000 in
theorem step3 (N : Int) (sec : Bool) (r d : Nat) (B : List UInt8) (at_ : Nat) (e : Int) (w : World) (hP : Pair w r d B at_ e) :
    Calls Try.prog 16 #[.agg #[.int .i64 3, .int .i64 N, .bool sec], .pointer (some ⟨r, 0, none⟩), .pointer (some ⟨d, 0, none⟩)] w (Stepped w r d B) := by
  have b0 := below1 w (.cells #[.int .i64 3, .int .i64 N, .bool sec] 34)
  have p1 := hP.below b0
  have f1 := Fr.of_below r d b0
  go_enter Try.func16, Try.ntmps16
  go_upto_region 9 with fail
  generalize w.alloc (.cells #[.int .i64 3, .int .i64 N, .bool sec] 34) = w1 at *
  clear b0 hP
  have G1 := Get32_any r B at_ e w1 p1.a
  have G2 := fun w2 q => rNum_any d B at_ 4 e w2 q (by omega)
  have lv := numS_lt B at_ e 4
  generalize numS B at_ e 4 = t at G1 G2 lv
  obtain ⟨v, a', e'⟩ := t
  simp only at G1 G2 lv
  have wv : IntKind.u64.wrap (v : Int) = (v : Int) := wrapu64_of v (Nat.lt_of_lt_of_le lv (by decide))
  clear lv
  go_upto_region 10 with (go_at_call 41; refine G1.mono ?_; rintro en w2 ⟨rfl, r2, g2⟩)
  have d2 := p1.b.other g2 p1.a (Ne.symm p1.ne)
  have f2 := f1.trans (Fr.left d g2)
  clear G1 g2 f1
  go_wp2_with (go_at_call 40; refine (G2 _ d2).mono ?_; rintro en w3 ⟨rfl, d3, g3⟩)
  go_ret
  exact ⟨ret_bool (by simp), ⟨a', e', r2.other g3 d2 p1.ne, d3, p1.ne⟩, f2.trans (Fr.right r g3)⟩

set_option maxRecDepth 100000 in
set_option maxHeartbeats 4000000 in
theorem step4 (N : Int) (sec : Bool) (r d : Nat) (B : List UInt8) (at_ : Nat) (e : Int) (w : World) (hP : Pair w r d B at_ e) :
    Calls Try.prog 16 #[.agg #[.int .i64 4, .int .i64 N, .bool sec], .pointer (some ⟨r, 0, none⟩), .pointer (some ⟨d, 0, none⟩)] w (Stepped w r d B) := by
  have b0 := below1 w (.cells #[.int .i64 4, .int .i64 N, .bool sec] 34)
  have p1 := hP.below b0
  have f1 := Fr.of_below r d b0
  go_enter Try.func16, Try.ntmps16
  go_upto_region 12 with fail
  generalize w.alloc (.cells #[.int .i64 4, .int .i64 N, .bool sec] 34) = w1 at *
  clear b0 hP
  have G1 := Get64_any r B at_ e w1 p1.a
  have G2 := fun w2 q => rNum_any d B at_ 8 e w2 q (by omega)
  have lv := numS_lt B at_ e 8
  generalize numS B at_ e 8 = t at G1 G2 lv
  obtain ⟨v, a', e'⟩ := t
  simp only at G1 G2 lv
  have wv : IntKind.u64.wrap (v : Int) = (v : Int) := wrapu64_of v (Nat.lt_of_lt_of_le lv (by decide))
  clear lv
  go_upto_region 13 with (go_at_call 42; refine G1.mono ?_; rintro en w2 ⟨rfl, r2, g2⟩)
  have d2 := p1.b.other g2 p1.a (Ne.symm p1.ne)
  have f2 := f1.trans (Fr.left d g2)
  clear G1 g2 f1
  go_wp2_with (go_at_call 40; refine (G2 _ d2).mono ?_; rintro en w3 ⟨rfl, d3, g3⟩)
  go_ret
  exact ⟨ret_bool (by simp), ⟨a', e', r2.other g3 d2 p1.ne, d3, p1.ne⟩, f2.trans (Fr.right r g3)⟩

set_option maxRecDepth 100000 in
set_option maxHeartbeats 4000000 in
theorem step9 (N : Int) (sec : Bool) (r d : Nat) (B : List UInt8) (at_ : Nat) (e : Int) (w : World) (hP : Pair w r d B at_ e) :
    Calls Try.prog 16 #[.agg #[.int .i64 9, .int .i64 N, .bool sec], .pointer (some ⟨r, 0, none⟩), .pointer (some ⟨d, 0, none⟩)] w (Stepped w r d B) := by
  have b0 := below1 w (.cells #[.int .i64 9, .int .i64 N, .bool sec] 34)
  have p1 := hP.below b0
  have f1 := Fr.of_below r d b0
  go_enter Try.func16, Try.ntmps16
  go_upto_region 33 with fail
  generalize w.alloc (.cells #[.int .i64 9, .int .i64 N, .bool sec] 34) = w1 at *
  clear b0 hP
  have G1 := GetWord_any r B at_ e w1 p1.a
  have G2 := fun w2 q => rNum_any d B at_ 2 e w2 q (by omega)
  have lv := numS_lt B at_ e 2
  generalize numS B at_ e 2 = t at G1 G2 lv
  obtain ⟨v, a', e'⟩ := t
  simp only at G1 G2 lv
  have wv : IntKind.u64.wrap (v : Int) = (v : Int) := wrapu64_of v (Nat.lt_of_lt_of_le lv (by decide))
  clear lv
  go_upto_region 34 with (go_at_call 46; refine G1.mono ?_; rintro en w2 ⟨rfl, r2, g2⟩)
  have d2 := p1.b.other g2 p1.a (Ne.symm p1.ne)
  have f2 := f1.trans (Fr.left d g2)
  clear G1 g2 f1
  go_wp2_with (go_at_call 40; refine (G2 _ d2).mono ?_; rintro en w3 ⟨rfl, d3, g3⟩)
  go_ret
  exact ⟨ret_bool (by simp), ⟨a', e', r2.other g3 d2 p1.ne, d3, p1.ne⟩, f2.trans (Fr.right r g3)⟩

set_option maxRecDepth 100000 in
set_option maxHeartbeats 4000000 in
theorem step6 (N : Int) (sec : Bool) (r d : Nat) (B : List UInt8) (at_ : Nat) (e : Int) (w : World) (hP : Pair w r d B at_ e) :
    Calls Try.prog 16 #[.agg #[.int .i64 6, .int .i64 N, .bool sec], .pointer (some ⟨r, 0, none⟩), .pointer (some ⟨d, 0, none⟩)] w (Stepped w r d B) := by
  have b0 := below1 w (.cells #[.int .i64 6, .int .i64 N, .bool sec] 34)
  have p1 := hP.below b0
  have f1 := Fr.of_below r d b0
  go_enter Try.func16, Try.ntmps16
  go_upto_region 24 with fail
  generalize w.alloc (.cells #[.int .i64 6, .int .i64 N, .bool sec] 34) = w1 at *
  clear b0 hP
  have G1 := V_any r B at_ e w1 p1.a
  have G2 := fun w2 q => rV_any d B at_ e w2 q
  generalize vS B at_ e = t at G1 G2
  obtain ⟨v, a', e'⟩ := t
  simp only at G1 G2
  go_upto_region 25 with (go_at_call 25; refine G1.mono ?_; rintro en w2 ⟨rfl, r2, g2⟩)
  have d2 := p1.b.other g2 p1.a (Ne.symm p1.ne)
  have f2 := f1.trans (Fr.left d g2)
  clear G1 g2 f1
  go_wp2_with (go_at_call 44; refine (G2 _ d2).mono ?_; rintro en w3 ⟨rfl, d3, g3⟩)
  go_ret
  exact ⟨ret_bool (by simp), ⟨a', e', r2.other g3 d2 p1.ne, d3, p1.ne⟩, f2.trans (Fr.right r g3)⟩

set_option maxRecDepth 100000 in
set_option maxHeartbeats 4000000 in
theorem step7 (N : Int) (sec : Bool) (r d : Nat) (B : List UInt8) (at_ : Nat) (e : Int) (w : World) (hP : Pair w r d B at_ e) :
    Calls Try.prog 16 #[.agg #[.int .i64 7, .int .i64 N, .bool sec], .pointer (some ⟨r, 0, none⟩), .pointer (some ⟨d, 0, none⟩)] w (Stepped w r d B) := by
  have b0 := below1 w (.cells #[.int .i64 7, .int .i64 N, .bool sec] 34)
  have p1 := hP.below b0
  have f1 := Fr.of_below r d b0
  go_enter Try.func16, Try.ntmps16
  go_upto_region 27 with fail
  generalize w.alloc (.cells #[.int .i64 7, .int .i64 N, .bool sec] 34) = w1 at *
  clear b0 hP
  have G1 := Left_calls r B at_ e w1 p1.a
  have G2 := fun w2 q => rLeft_calls d B at_ e w2 q
  generalize leftS B at_ e = v at G1 G2
  go_upto_region 28 with (go_at_call 24; refine G1.mono ?_; rintro en w2 ⟨rfl, j2, rfl⟩)
  have p2 := p1.drewN j2
  have f2 := f1.trans (Fr.drewN _ r d j2)
  clear G1 f1 p1
  generalize w1.drewN j2 = w2 at *
  go_wp2_with (go_at_call 45; refine (G2 _ p2.b).mono ?_; rintro en w3 ⟨rfl, j3, rfl⟩)
  go_ret
  exact ⟨ret_bool (by simp), ⟨at_, e, p2.drewN j3⟩, f2.trans (Fr.drewN _ r d j3)⟩

set_option maxRecDepth 100000 in
set_option maxHeartbeats 4000000 in
theorem step8 (N : Int) (sec : Bool) (r d : Nat) (B : List UInt8) (at_ : Nat) (e : Int) (w : World) (hP : Pair w r d B at_ e) :
    Calls Try.prog 16 #[.agg #[.int .i64 8, .int .i64 N, .bool sec], .pointer (some ⟨r, 0, none⟩), .pointer (some ⟨d, 0, none⟩)] w (Stepped w r d B) := by
  have b0 := below1 w (.cells #[.int .i64 8, .int .i64 N, .bool sec] 34)
  have p1 := hP.below b0
  have f1 := Fr.of_below r d b0
  go_enter Try.func16, Try.ntmps16
  go_upto_region 30 with fail
  generalize w.alloc (.cells #[.int .i64 8, .int .i64 N, .bool sec] 34) = w1 at *
  clear b0 hP
  have G1 := Err_calls r B at_ e w1 p1.a
  go_upto_region 31 with (go_at_call 22; refine G1.mono ?_; rintro en w2 ⟨rfl, j2, rfl⟩)
  have p2 := p1.drewN j2
  have f2 := f1.trans (Fr.drewN _ r d j2)
  clear G1 f1 p1
  generalize w1.drewN j2 = w2 at *
  obtain ⟨gb, n, c, c0, c1, c2, f1', f2', ob, ne, la, ln, lc⟩ := p2.b.laid
  clear c0 f1' f2' ob
  go_quiet (first | (go_at_call 23; exact Calls.quiet_of_same (num_quiet _ _ _)))
  go_wp2
  go_ret
  exact ⟨ret_bool (by simp), ⟨at_, e, p2.drewN _⟩, f2.trans (Fr.drewN _ r d _)⟩

def I64 (z : Int) : Prop := -9223372036854775808 ≤ z ∧ z ≤ 9223372036854775807

set_option maxRecDepth 100000 in
set_option maxHeartbeats 4000000 in
theorem step5 (N : Int) (sec : Bool) (r d : Nat) (B : List UInt8) (at_ : Nat) (e : Int) (w : World) (hP : Pair w r d B at_ e) (hB : B.length ≤ 140737488351232) (hN : I64 N) :
    Calls Try.prog 16 #[.agg #[.int .i64 5, .int .i64 N, .bool sec], .pointer (some ⟨r, 0, none⟩), .pointer (some ⟨d, 0, none⟩)] w (Stepped w r d B) := by
  have b0 := below1 w (.cells #[.int .i64 5, .int .i64 N, .bool sec] 34)
  have p1 := hP.below b0
  have f1 := Fr.of_below r d b0
  have i1 : (w.alloc (.cells #[.int .i64 5, .int .i64 N, .bool sec] 34)).cell? ⟨w.heap.size, 1, none⟩ = some (.int .i64 N) := by simp
  have nr : w.heap.size ≠ r := Nat.ne_of_gt hP.a.lt
  go_enter Try.func16, Try.ntmps16
  go_upto_region 15 with fail
  generalize w.alloc (.cells #[.int .i64 5, .int .i64 N, .bool sec] 34) = w1 at *
  clear b0 hP
  have lt1 : w.heap.size < w1.heap.size := World.block_lt_of_cell? w1 _ i1
  have G1 := Bytes_any r B at_ e N w1 p1.a hN
  have G2 := fun w2 q => rBytes_any d B at_ e N w2 q hB
  generalize bytesS B at_ e N = t at G1 G2
  obtain ⟨v, a', e'⟩ := t
  simp only at G1 G2
  go_upto_region 16 with (go_at_call 27; refine G1.mono ?_; rintro en w2 ⟨gb, m, rfl, s2, o2, r2, g2⟩)
  have d2 := p1.b.other g2 p1.a (Ne.symm p1.ne)
  have f2 := f1.trans (Fr.left d g2)
  have i2 : w2.cell? ⟨w.heap.size, 1, none⟩ = some (.int .i64 N) := (World.cell?_of_block (w := w1) (show _ = _ from Sm.of_grown g2 lt1 (by simpa using nr))).trans i1
  have gbw : w.heap.size ≤ gb := Nat.le_trans f1.size s2
  clear G1 g2 f1 i1
  go_upto_region 17 with (go_at_call 43; refine (G2 _ d2).mono ?_; rintro en w3 ⟨A3, m3, c3, rfl, q3, d3, g3⟩)
  have mm : m ≤ 9223372036854775807 := by have := OC.mx o2; rw [maxLen_is] at this; exact this
  have r3 := r2.other g3 d2 p1.ne
  have f3 := f2.trans (Fr.right r g3)
  have o3 := o2.beside g3 d2
  have rl : r < w1.heap.size := p1.a.lt
  have dl : d < w1.heap.size := p1.b.lt
  have p3 : Pair w3 r d B a' e' := ⟨r3, d3, p1.ne⟩
  have hgr : r < gb := Nat.lt_of_lt_of_le rl s2
  have hgd : d < gb := Nat.lt_of_lt_of_le dl s2
  clear r2 d2 f2 o2 r3 d3 g3 G2 p1 i2 s2
  go_upto_region 18 with (go_at_call 13; refine (SameBytes_calls _ _ _ _ _ _ _ _ _ o3.read q3 true (by simp)).mono ?_; rintro en w4 ⟨rfl, rfl⟩)
  go_wp2
  go_loopw [14] (fun ii wr => ∃ (i : Nat) (ys : List UInt8), i ≤ m ∧ ii = .int .i64 (i : Int) ∧ OB wr gb m m ys ∧ Pair wr r d B a' e' ∧ Fr w wr r d)
    (fun ii _ => m - (intOf ii).toNat)
  case atStart => exact ⟨0, _, by omega, rfl, o3, p3, f3⟩
  case round =>
    obtain ⟨i, ys, hi, rfl, oy, py, fy⟩ := hrel
    by_cases hlt : i < m
    · have hl := oy.len
      have ci := oy.cell i (by omega)
      have fi := oy.free i
      have o5 := oy.set i 35
      have gx := grownBy_set wr gb i (.int .u8 ((35 : UInt8).toNat : Int))
      have p5 : Pair (wr.setCell ⟨gb, i, none⟩ (.int .u8 ((35 : UInt8).toNat : Int))) r d B a' e' := ⟨py.a.above gx hgr, py.b.above gx hgd, py.ne⟩
      have f5 : Fr w (wr.setCell ⟨gb, i, none⟩ (.int .u8 ((35 : UInt8).toNat : Int))) r d := ⟨gx.os.trans fy.os, gx.tape.trans fy.tape, gx.output.trans fy.output, Nat.le_trans fy.size gx.size, fun k hk h1 h2 => (fy.keep k hk h1 h2).trans (Sm.of_grown gx (Nat.lt_of_lt_of_le hk fy.size) (by simp; omega))⟩
      clear gx
      go_wp2
      go_roundw
      case rel => exact ⟨i + 1, _, by omega, by go_num, o5, p5, f5⟩
      case measure => simp [intOf]; omega
    · obtain rfl : i = m := by omega
      go_wp2
      go_ret
      exact ⟨rfl, ⟨a', e', py⟩, fy⟩

set_option maxRecDepth 100000 in
set_option maxHeartbeats 4000000 in
theorem step_else (K N : Int) (sec : Bool) (r d : Nat) (B : List UInt8) (at_ : Nat) (e : Int) (w : World) (hP : Pair w r d B at_ e) (hK : K ≠ 1 ∧ K ≠ 2 ∧ K ≠ 3 ∧ K ≠ 4 ∧ K ≠ 5 ∧ K ≠ 6 ∧ K ≠ 7 ∧ K ≠ 8 ∧ K ≠ 9) :
    Calls Try.prog 16 #[.agg #[.int .i64 K, .int .i64 N, .bool sec], .pointer (some ⟨r, 0, none⟩), .pointer (some ⟨d, 0, none⟩)] w (Stepped w r d B) := by
  obtain ⟨k1, k2, k3, k4, k5, k6, k7, k8, k9⟩ := hK
  have h1 : (K == 1) = false := beq_eq_false_iff_ne.2 k1
  have h2 : (K == 2) = false := beq_eq_false_iff_ne.2 k2
  have h3 : (K == 3) = false := beq_eq_false_iff_ne.2 k3
  have h4 : (K == 4) = false := beq_eq_false_iff_ne.2 k4
  have h5 : (K == 5) = false := beq_eq_false_iff_ne.2 k5
  have h6 : (K == 6) = false := beq_eq_false_iff_ne.2 k6
  have h7 : (K == 7) = false := beq_eq_false_iff_ne.2 k7
  have h8 : (K == 8) = false := beq_eq_false_iff_ne.2 k8
  have h9 : (K == 9) = false := beq_eq_false_iff_ne.2 k9
  have b0 := below1 w (.cells #[.int .i64 K, .int .i64 N, .bool sec] 34)
  have p1 := hP.below b0
  have f1 := Fr.of_below r d b0
  clear k1 k2 k3 k4 k5 k6 k7 k8 k9
  go_enter Try.func16, Try.ntmps16
  go_wp2
  go_ret
  exact ⟨rfl, ⟨at_, e, p1⟩, f1⟩

theorem step_calls (K N : Int) (sec : Bool) (r d : Nat) (B : List UInt8) (at_ : Nat) (e : Int) (w : World) (hP : Pair w r d B at_ e) (hB : B.length ≤ 140737488351232) (hN : I64 N) :
    Calls Try.prog 16 #[.agg #[.int .i64 K, .int .i64 N, .bool sec], .pointer (some ⟨r, 0, none⟩), .pointer (some ⟨d, 0, none⟩)] w (Stepped w r d B) := by
  by_cases h1 : K = 1
  · subst h1; exact step1 N sec r d B at_ e w hP
  by_cases h2 : K = 2
  · subst h2; exact step2 N sec r d B at_ e w hP
  by_cases h3 : K = 3
  · subst h3; exact step3 N sec r d B at_ e w hP
  by_cases h4 : K = 4
  · subst h4; exact step4 N sec r d B at_ e w hP
  by_cases h5 : K = 5
  · subst h5; exact step5 N sec r d B at_ e w hP hB hN
  by_cases h6 : K = 6
  · subst h6; exact step6 N sec r d B at_ e w hP
  by_cases h7 : K = 7
  · subst h7; exact step7 N sec r d B at_ e w hP
  by_cases h8 : K = 8
  · subst h8; exact step8 N sec r d B at_ e w hP
  by_cases h9 : K = 9
  · subst h9; exact step9 N sec r d B at_ e w hP
  exact step_else K N sec r d B at_ e w hP ⟨h1, h2, h3, h4, h5, h6, h7, h8, h9⟩
end Go.Proofs.Ytnhmilpnekfhmaa
