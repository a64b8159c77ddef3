/- A reader: a block with its bytes, its place, its error. NewReader, take. -/
import Derived.Test.YtmeakhiiebeneaaGreatDoorM3
import Derived.Deep.QuietTactic
import Derived.BigQuiet
import Derived.BigRegion
import Derived.WalkLawsBesides
import Derived.Test.YtmeakhiiebeneaaGreatDoorM1
import Derived.Laws.BitsAllLaws
namespace Go.Proofs.YtmeakhiiebeneaaGreatDoor
open Go.RowKit

/-- Block g is a reader of bytes B at a place, with an error. -/
structure Rd (w : World) (g : Nat) (B : List UInt8) (at_ : Nat) (e : Int) : Prop where
  row : ∃ t gb n c, OC w t 1 g 3 3 [.slice (some ⟨gb, 0, none⟩) n c, .int .i64 (at_ : Int), .int .i64 e] ∧ OB w gb n c B ∧ gb < g ∧ at_ ≤ n ∧ n ≤ 140737488355328 ∧ t ≠ 5
theorem Rd.lt {w : World} {g : Nat} {B : List UInt8} {at_ : Nat} {e : Int} (h : Rd w g B at_ e) : g < w.heap.size := by
  obtain ⟨t, gb, n, c, h1, _⟩ := h.row; exact h1.lt
theorem Rd.keep {w w' : World} {g : Nat} {B : List UInt8} {at_ : Nat} {e : Int} (h : Rd w g B at_ e) (hs : ∀ k, k < w.heap.size → Sm w w' k) : Rd w' g B at_ e := by
  obtain ⟨t, gb, n, c, h1, h2, h3, h4, h5⟩ := h.row
  exact ⟨t, gb, n, c, h1.same (hs g h1.lt), h2.same (hs gb h2.lt), h3, h4, h5⟩
theorem Rd.below {w w' : World} {g : Nat} {B : List UInt8} {at_ : Nat} {e : Int} (h : Rd w g B at_ e) (hb : Below w.heap.size w w') : Rd w' g B at_ e :=
  h.keep fun _ hk => Sm.of_below hb hk
theorem Rd.drewN {w : World} {g : Nat} {B : List UInt8} {at_ : Nat} {e : Int} (h : Rd w g B at_ e) (m : Nat) : Rd (w.drewN m) g B at_ e := h.keep fun _ _ => rfl
theorem Rd.le {w : World} {g : Nat} {B : List UInt8} {at_ : Nat} {e : Int} (h : Rd w g B at_ e) : at_ ≤ B.length ∧ B.length ≤ 140737488355328 := by
  obtain ⟨t, gb, n, c, h1, h2, h3, h4, h5⟩ := h.row
  rw [h2.len]; exact ⟨h4, h5.1⟩
/-- behind a call that has written this reader's block alone: another reader, other bytes. -/
theorem sm_other {w w' : World} {g k : Nat} (hg : w.grownBy w' (some g)) (hk : k < w.heap.size) (hne : k ≠ g) : Sm w w' k := Sm.of_grown hg hk (by simpa using hne)
theorem grownBy_set (w : World) (g j : Nat) (v : Value) : w.grownBy (w.setCell ⟨g, j, none⟩ v) (some g) :=
  ⟨rfl, rfl, rfl, by simp [World.setCell], fun k _ hk => Below.heap_setCell _ _ _ _ (fun e => hk (by rw [e]))⟩
theorem grownBy_drewN (w : World) (m : Nat) (row : Option Nat) : w.grownBy (w.drewN m) row := ⟨rfl, rfl, rfl, Nat.le_refl _, fun _ _ _ => rfl⟩
theorem Rd.setErr {w : World} {g : Nat} {B : List UInt8} {at_ : Nat} {e : Int} (h : Rd w g B at_ e) (e' : Int) : Rd (w.setCell ⟨g, 2, none⟩ (.int .i64 e')) g B at_ e' := by
  obtain ⟨t, gb, n, c, h1, h2, h3, h4, h5⟩ := h.row
  exact ⟨t, gb, n, c, h1.set 2 _, h2.same (Sm.setCell w _ _ (Nat.ne_of_lt h3)), h3, h4, h5⟩
theorem Rd.setAt {w : World} {g : Nat} {B : List UInt8} {at_ : Nat} {e : Int} (h : Rd w g B at_ e) (a' : Nat) (ha : a' ≤ B.length) : Rd (w.setCell ⟨g, 1, none⟩ (.int .i64 (a' : Int))) g B a' e := by
  obtain ⟨t, gb, n, c, h1, h2, h3, h4, h5⟩ := h.row
  rw [h2.len] at ha
  exact ⟨t, gb, n, c, h1.set 1 _, h2.same (Sm.setCell w _ _ (Nat.ne_of_lt h3)), h3, ha, h5⟩
/-- The cells of a reader, laid out for a walk. -/
structure RdAt (w : World) (g gb n c : Nat) (B : List UInt8) (at_ : Nat) (e : Int) : Prop where
  c0 : w.cell? ⟨g, 0, none⟩ = some (.slice (some ⟨gb, 0, none⟩) n c)
  c1 : w.cell? ⟨g, 1, none⟩ = some (.int .i64 (at_ : Int))
  c2 : w.cell? ⟨g, 2, none⟩ = some (.int .i64 e)
  f1 : w.frozen? ⟨g, 1, none⟩ = false
  f2 : w.frozen? ⟨g, 2, none⟩ = false
  ob : OB w gb n c B
  ne : gb ≠ g
  la : at_ ≤ n
  ln : n ≤ 140737488355328
  lc : n ≤ c
theorem Rd.laid {w : World} {g : Nat} {B : List UInt8} {at_ : Nat} {e : Int} (h : Rd w g B at_ e) : ∃ gb n c, RdAt w g gb n c B at_ e := by
  obtain ⟨t, gb, n, c, h1, h2, h3, h4, h5⟩ := h.row
  exact ⟨gb, n, c, h1.cell 0 _ rfl, h1.cell 1 _ rfl, h1.cell 2 _ rfl, h1.free 1, h1.free 2, h2, Nat.ne_of_lt h3, h4, h5.1, OC.le h2⟩
theorem Rd.new {w : World} {gb n c t : Nat} {B : List UInt8} (ob : OB w gb n c B) (hn : n ≤ 140737488355328) (ht : t ≠ 5) :
    Rd (w.alloc (.cells #[.slice (some ⟨gb, 0, none⟩) n c, .int .i64 0, .int .i64 0] t)) w.heap.size B 0 0 :=
  ⟨t, gb, n, c, OC.mk rfl _ (heap_alloc_new w _) (Nat.le_refl _) (by rw [maxLen_is]; omega) rfl rfl, ob.same (Sm.alloc w _ ob.lt), ob.lt, Nat.zero_le _, hn, ht⟩
/-- Another reader stays where this reader's block alone is written. -/
theorem Rd.other {w w' : World} {g g' : Nat} {B B' : List UInt8} {at_ at' : Nat} {e e' : Int} (q : Rd w g B at_ e) (gx : w.grownBy w' (some g')) (r : Rd w g' B' at' e') (ne : g ≠ g') : Rd w' g B at_ e := by
  obtain ⟨t, gb, n, c, h1, h2, h3, h4, h5⟩ := q.row
  obtain ⟨t', gb', n', c', k1, k2, k3, k4, k5⟩ := r.row
  have hne : gb ≠ g' := by
    rintro rfl
    obtain ⟨_, cur, q1, _⟩ := OC.block h2
    obtain ⟨_, cur', q2, _⟩ := OC.block k1
    rw [q1] at q2
    injection q2 with q2
    injection q2 with _ q2
    exact k5.2 q2.symm
  exact ⟨t, gb, n, c, h1.same (Sm.of_grown gx h1.lt (by simpa using ne)), h2.same (Sm.of_grown gx h2.lt (by simpa using hne)), h3, h4, h5⟩
/-- A reader stays where a younger block is written. -/
theorem Rd.above {w w' : World} {g k : Nat} {B : List UInt8} {at_ : Nat} {e : Int} (q : Rd w g B at_ e) (gx : w.grownBy w' (some k)) (hk : g < k) : Rd w' g B at_ e := by
  obtain ⟨t, gb, n, c, h1, h2, h3, h4, h5⟩ := q.row
  have n1 : g ≠ k := Nat.ne_of_lt hk
  have n2 : gb ≠ k := Nat.ne_of_lt (Nat.lt_trans h3 hk)
  exact ⟨t, gb, n, c, h1.same (Sm.of_grown gx h1.lt (by simpa using n1)), h2.same (Sm.of_grown gx h2.lt (by simpa using n2)), h3, h4, h5⟩
/-- Bytes in a block of their own stay where a reader's block alone is written. -/
theorem OB.beside {w w' : World} {g g' n c : Nat} {xs : List UInt8} {B' : List UInt8} {at' : Nat} {e' : Int} (q : OB w g n c xs) (gx : w.grownBy w' (some g')) (r : Rd w g' B' at' e') : OB w' g n c xs := by
  obtain ⟨t', gb', n', c', k1, k2, k3, k4, k5⟩ := r.row
  have hne : g ≠ g' := by
    rintro rfl
    obtain ⟨_, cur, q1, _⟩ := OC.block q
    obtain ⟨_, cur', q2, _⟩ := OC.block k1
    rw [q1] at q2
    injection q2 with q2
    injection q2 with _ q2
    exact k5.2 q2.symm
  exact q.same (Sm.of_grown gx q.lt (by simpa using hne))
end Go.Proofs.YtmeakhiiebeneaaGreatDoor
namespace Go.Proofs.YtmeakhiiebeneaaGreatDoor
open Go.RowKit

set_option maxHeartbeats 400000 in
theorem NewReader_calls (A : Option Addr) (n c : Nat) (xs : List UInt8) (w : World) (hx : RB w A n c xs) (hb : n ≤ 140737488355328) :
    Calls Tryz.prog 23 #[.slice A n c] w fun e w' => ∃ g, e = .returned (.pointer (some ⟨g, 0, none⟩)) ∧ w.heap.size ≤ g ∧ Rd w' g xs 0 0 ∧ Below w.heap.size w w' := by
  go_enter Tryz.func23, Tryz.ntmps23
  go_wp2_with (go_at_call 78; refine (grown_calls _ _ _ 0 _ _ hx (by omega)).mono ?_; rintro e w1 ⟨g1, rfl, s1, o1, b1⟩)
  have z1 := b1.size
  go_ret
  exact ⟨_, rfl, z1, Rd.new o1 hb (by decide), b1.alloc z1 _⟩

theorem Rd.setAtI {w : World} {g : Nat} {B : List UInt8} {at_ : Nat} {e : Int} (h : Rd w g B at_ e) (v : Int) (a' : Nat) (hv : v = (a' : Int)) (ha : a' ≤ B.length) : Rd (w.setCell ⟨g, 1, none⟩ (.int .i64 v)) g B a' e := by
  subst hv; exact h.setAt a' ha
theorem RB.zero (w : World) (A : Option Addr) : RB w A 0 0 [] := ⟨rfl, Nat.le_refl _, Nat.zero_le _, fun _ => rfl, fun ad _ j u hu => by simp [u8s] at hu⟩
theorem grownBy_drewSet (w : World) (m g j : Nat) (v : Value) : w.grownBy ((w.drewN m).setCell ⟨g, j, none⟩ v) (some g) := (grownBy_drewN w m _).trans (grownBy_set _ _ _ _)
/-- How take answers. -/
def Took (g : Nat) (B : List UInt8) (at_ : Nat) (e : Int) (k : Int) (r : Value) (w' : World) : Prop :=
  if e = 0 ∧ 0 ≤ k ∧ k ≤ (B.length : Int) - (at_ : Int) then ∃ A, r = .slice A k.toNat k.toNat ∧ RB w' A k.toNat k.toNat ((B.drop at_).take k.toNat) ∧ Rd w' g B (at_ + k.toNat) 0
  else r = .slice none 0 0 ∧ Rd w' g B at_ (if e = 0 then 10 else e)

set_option maxHeartbeats 1000000 in
theorem take_calls (g : Nat) (B : List UInt8) (at_ : Nat) (e : Int) (k : Int) (w : World) (h : Rd w g B at_ e) (hk : -9223372036854775808 ≤ k ∧ k ≤ 9223372036854775807) :
    Calls Tryz.prog 82 #[.pointer (some ⟨g, 0, none⟩), .int .i64 k] w fun en w' => ∃ r, en = .returned r ∧ Took g B at_ e k r w' ∧ w.grownBy w' (some g) := by
  obtain ⟨gb, n, c, c0, c1, c2, f1, f2, ob, ne, la, ln, lc⟩ := h.laid
  have HL := hideIt ob.len
  by_cases he : e = 0
  · subst he
    by_cases hin : 0 ≤ k ∧ k ≤ (n : Int) - (at_ : Int)
    · obtain ⟨m, rfl⟩ : ∃ m : Nat, k = (m : Int) := ⟨k.toNat, by omega⟩
      have hm : at_ + m ≤ n := by omega
      have hT : ∀ r w', (∃ A, r = .slice A m m ∧ RB w' A m m ((B.drop at_).take m) ∧ Rd w' g B (at_ + m) 0) → Took g B at_ 0 (m : Int) r w' := by
        intro r w' q
        unfold Took
        rw [if_pos ⟨rfl, by omega, by rw [HL.out]; omega⟩]
        simpa using q
      have e1 : (((at_ + m : Nat) : Int)) = (at_ : Int) + (m : Int) := by omega
      have i1 : (m : Int) ≤ (n : Int) - (at_ : Int) := hin.2
      have i2 : (at_ : Int) ≤ (n : Int) := by omega
      have i3 : (at_ : Int) + (m : Int) ≤ (n : Int) := by omega
      have i4 : (n : Int) ≤ (c : Int) := by omega
      rcases Nat.eq_zero_or_pos m with h0 | h0
      · subst h0
        have i5 : (at_ : Int) ≤ (c : Int) := by omega
        go_enter Tryz.func82, Tryz.ntmps82
        go_wp2
        go_quiet (fail)
        go_wp2
        go_quiet (fail)
        go_wp2
        go_ret
        refine ⟨_, rfl, hT _ _ ⟨_, rfl, RB.zero _ _, ?_⟩, ?_⟩
        · exact (h.drewN _).setAtI _ _ (by omega) (by rw [HL.out]; exact hm)
        · exact grownBy_drewSet _ _ _ _ _
      · have cut := ob.read.cut (A' := some ⟨gb, at_, none⟩) at_ (at_ + m) (at_ + m) (by omega) hm (Nat.le_refl _) (by omega) (fun _ => by simp [Addr.add]) (fun q => by cases q)
        rw [Nat.add_sub_cancel_left] at cut
        have d0 : decide ((m : Int) < 0) = false := decide_eq_false (by omega)
        go_enter Tryz.func82, Tryz.ntmps82
        go_wp2
        go_quiet (fail)
        go_wp2
        go_quiet (fail)
        go_wp2
        go_ret
        rw [Nat.add_sub_cancel_left]
        refine ⟨_, rfl, hT _ _ ⟨_, rfl, ?_, ?_⟩, ?_⟩
        · exact cut.same (fun ad q _ => by cases q; exact Sm.setCell _ _ _ ne)
        · exact (h.drewN _).setAtI _ _ e1.symm (by rw [HL.out]; exact hm)
        · exact grownBy_drewSet _ _ _ _ _
    · have hT : ∀ w', Rd w' g B at_ 10 → Took g B at_ 0 k (.slice none 0 0) w' := by
        intro w' q
        unfold Took
        rw [HL.out, if_neg (fun p => hin ⟨p.2.1, p.2.2⟩), if_pos rfl]
        exact ⟨rfl, q⟩
      have i2 : (at_ : Int) ≤ (n : Int) := by omega
      by_cases hneg : k < 0
      · go_enter Tryz.func82, Tryz.ntmps82
        go_wp2
        go_quiet (fail)
        go_wp2
        go_ret
        exact ⟨_, rfl, hT _ ((h.drewN _).setErr 10), grownBy_drewSet _ _ _ _ _⟩
      · have d0 : decide (k < 0) = false := decide_eq_false hneg
        have k0 : 0 ≤ k := by omega
        have d1 : (n : Int) - (at_ : Int) < k := by omega
        go_enter Tryz.func82, Tryz.ntmps82
        go_wp2
        go_quiet (fail)
        go_wp2
        go_ret
        exact ⟨_, rfl, hT _ ((h.drewN _).setErr 10), grownBy_drewSet _ _ _ _ _⟩
  · have hE : (e == 0) = false := beq_eq_false_iff_ne.2 he
    have hT : ∀ w', Rd w' g B at_ e → Took g B at_ e k (.slice none 0 0) w' := by
      intro w' q
      unfold Took
      rw [if_neg (fun p => he p.1), if_neg he]
      exact ⟨rfl, q⟩
    go_enter Tryz.func82, Tryz.ntmps82
    go_wp2
    go_quiet (fail)
    go_wp2
    go_ret
    exact ⟨_, rfl, hT _ (h.drewN _), grownBy_drewN _ _ _⟩

theorem take_ok (g : Nat) (B : List UInt8) (at_ : Nat) (m : Nat) (w : World) (h : Rd w g B at_ 0) (hk : at_ + m ≤ B.length) :
    Calls Tryz.prog 82 #[.pointer (some ⟨g, 0, none⟩), .int .i64 (m : Int)] w fun en w' => ∃ A, en = .returned (.slice A m m) ∧ RB w' A m m ((B.drop at_).take m) ∧ Rd w' g B (at_ + m) 0 ∧ w.grownBy w' (some g) := by
  have l := h.le
  refine (take_calls g B at_ 0 m w h (by omega)).mono ?_
  rintro en w' ⟨r, rfl, q, gr⟩
  unfold Took at q
  rw [if_pos ⟨rfl, by omega, by omega⟩] at q
  obtain ⟨A, rfl, r1, d1⟩ := q
  exact ⟨A, rfl, r1, d1, gr⟩
end Go.Proofs.YtmeakhiiebeneaaGreatDoor
namespace Go.Proofs.YtmeakhiiebeneaaGreatDoor
open Go.RowKit

theorem grown_below {w w1 w2 : World} {g : Option Nat} (h : w.grownBy w1 g) (b : Below w1.heap.size w1 w2) : w.grownBy w2 g :=
  World.grownBy.trans h ⟨b.os, b.tape, b.output, b.size, fun k hk _ => b.block k hk⟩

set_option maxHeartbeats 1000000 in
theorem Bytes_any (g : Nat) (B : List UInt8) (at_ : Nat) (e k : Int) (w : World) (h : Rd w g B at_ e) (hk : -9223372036854775808 ≤ k ∧ k ≤ 9223372036854775807) :
    Calls Tryz.prog 26 #[.pointer (some ⟨g, 0, none⟩), .int .i64 k] w fun en w' => ∃ gb m, en = .returned (.slice (some ⟨gb, 0, none⟩) m m) ∧ w.heap.size ≤ gb ∧ OB w' gb m m (bytesS B at_ e k).1 ∧ Rd w' g B (bytesS B at_ e k).2.1 (bytesS B at_ e k).2.2 ∧ w.grownBy w' (some g) := by
  have hle := h.le
  have con := take_calls g B at_ e k w h hk
  unfold Took at con
  by_cases hy : e = 0 ∧ 0 ≤ k ∧ k ≤ (B.length : Int) - (at_ : Int)
  · have e1 : bytesS B at_ e k = ((B.drop at_).take k.toNat, at_ + k.toNat, 0) := by unfold bytesS; rw [if_pos hy]
    rw [e1]
    simp only [if_pos hy] at con
    have hb : k.toNat ≤ 140737488355328 := by omega
    generalize k.toNat = m at *
    clear hy e1 hle
    go_enter Tryz.func26, Tryz.ntmps26
    go_wp2_with (first
      | (go_at_call 78; refine (grown_calls _ _ _ 0 _ _ r1 (by omega)).mono ?_; rintro en w2 ⟨g2, rfl, s2, o2, x2⟩)
      | (go_at_call 82; refine con.mono ?_; rintro en w1 ⟨r, rfl, ⟨A1, rfl, r1, d1⟩, g1⟩))
    go_ret
    exact ⟨g2, m, rfl, Nat.le_trans g1.size s2, o2, d1.below x2, grown_below g1 x2⟩
  · have e1 : bytesS B at_ e k = ([], at_, if e = 0 then 10 else e) := by unfold bytesS; rw [if_neg hy]
    rw [e1]
    simp only [if_neg hy] at con
    simp only
    generalize (if e = 0 then 10 else e) = er at con ⊢
    clear hy e1 hle
    go_enter Tryz.func26, Tryz.ntmps26
    go_wp2_with (first
      | (go_at_call 78; refine (grown_calls none 0 0 0 [] _ (RB.nil _) (by omega)).mono ?_; rintro en w2 ⟨g2, rfl, s2, o2, x2⟩)
      | (go_at_call 82; refine con.mono ?_; rintro en w1 ⟨r, rfl, ⟨rfl, d1⟩, g1⟩))
    go_ret
    exact ⟨g2, 0, rfl, Nat.le_trans g1.size s2, o2, d1.below x2, grown_below g1 x2⟩

set_option maxHeartbeats 1000000 in
theorem Left_calls (g : Nat) (B : List UInt8) (at_ : Nat) (e : Int) (w : World) (h : Rd w g B at_ e) :
    Calls Tryz.prog 27 #[.pointer (some ⟨g, 0, none⟩)] w fun en w' => en = .returned (.int .i64 (leftS B at_ e : Nat)) ∧ ∃ j, w' = w.drewN j := by
  obtain ⟨gb, n, c, c0, c1, c2, f1, f2, ob, ne, la, ln, lc⟩ := h.laid
  have hl := ob.len
  by_cases he : e = 0
  · subst he
    have e1 : ((leftS B at_ 0 : Nat) : Int) = (n : Int) - (at_ : Int) := by unfold leftS; rw [if_pos rfl, hl]; omega
    rw [e1]
    clear e1 hl
    go_enter Tryz.func27, Tryz.ntmps27
    go_wp2
    go_quiet (fail)
    go_wp2
    go_ret
    exact ⟨rfl, _, rfl⟩
  · have e1 : leftS B at_ e = 0 := by unfold leftS; rw [if_neg he]
    rw [e1]
    have hE : (e == 0) = false := beq_eq_false_iff_ne.2 he
    go_enter Tryz.func27, Tryz.ntmps27
    go_wp2
    go_ret
    exact ⟨rfl, 0, rfl⟩

end Go.Proofs.YtmeakhiiebeneaaGreatDoor
namespace Go.Proofs.YtmeakhiiebeneaaGreatDoor
open Go.RowKit

theorem and127 : ∀ a : Fin 256, a.val &&& 127 = a.val % 128 := by decide +kernel
theorem u8_low7 (b : UInt8) : bits .and .u8 (b.toNat : Int) 127 = ((b.toNat % 128 : Nat) : Int) := by
  have h := u8_and_nat b.toNat 127 b.toNat_lt (by decide)
  have o := and127 ⟨b.toNat, b.toNat_lt⟩
  simp only at o
  rw [o] at h
  exact h
theorem v_step (v i c : Nat) (hi : i ≤ 9) (hv : v < 128 ^ i) (hc : c < 128) (h9 : i = 9 → c < 2) :
    bits .or .u64 (v : Int) (IntKind.u64.wrap ((c : Int) * 2 ^ (7 * i))) = ((v + 128 ^ i * c : Nat) : Int) ∧ v + 128 ^ i * c < 128 ^ (i + 1) ∧ v + 128 ^ i * c < 18446744073709551616 := by
  have e2 : (2 : Nat) ^ (7 * i) = 128 ^ i := by rw [Nat.pow_mul]
  have e1 : 128 ^ (i + 1) = 128 ^ i * 128 := Nat.pow_succ ..
  have h1 : 128 ^ i * c ≤ 128 ^ i * 127 := Nat.mul_le_mul_left _ (by omega)
  have h2 : v + 128 ^ i * c < 128 ^ (i + 1) := by rw [e1]; omega
  have p9 : 128 ^ 9 = 9223372036854775808 := by decide
  have h3 : v + 128 ^ i * c < 18446744073709551616 := by
    by_cases h : i = 9
    · subst h
      have := h9 rfl
      rw [p9] at *
      have : 9223372036854775808 * c ≤ 9223372036854775808 * 1 := Nat.mul_le_mul_left _ (by omega)
      omega
    · have : 128 ^ (i + 1) ≤ 128 ^ 9 := Nat.pow_le_pow_right (by decide) (by omega)
      omega
  refine ⟨?_, h2, h3⟩
  have e8 : 256 ^ 8 = 18446744073709551616 := by decide
  have e3 : ((c : Int)) * (2 : Int) ^ (7 * i) = ((128 ^ i * c : Nat) : Int) := by
    rw [← e2, Int.natCast_mul, Int.natCast_pow, Int.mul_comm]; rfl
  rw [e3, wrapu64_of _ (by omega), bits_or64 _ _ (by omega) (by omega)]
  congr 1
  rw [← e2] at hv ⊢
  rw [Nat.add_comm, Nat.two_pow_add_eq_or_of_lt hv, Nat.or_comm]

set_option maxRecDepth 100000 in
set_option maxHeartbeats 2000000 in
theorem V_ok (g : Nat) (B : List UInt8) (at_ : Nat) (w : World) (h : Rd w g B at_ 0) :
    Calls Tryz.prog 75 #[.pointer (some ⟨g, 0, none⟩)] w fun en w' => en = .returned (.int .u64 ((vOut (B.drop at_)).1 : Nat)) ∧ Rd w' g B (at_ + (vOut (B.drop at_)).2.1) (vOut (B.drop at_)).2.2 ∧ w.grownBy w' (some g) := by
  obtain ⟨gb, n, c, c0, c1, c2, f1, f2, ob, ne, la, ln, lc⟩ := h.laid
  have hB := ob.len
  obtain ⟨L, hL⟩ : ∃ L, B.drop at_ = L := ⟨_, rfl⟩
  have hl : L.length = n - at_ := by rw [← hL, List.length_drop, hB]
  have hget : ∀ k (hk : k < L.length) (hb : at_ + k < B.length), L[k] = B[at_ + k] := by
    intro k hk hb
    subst hL
    simp [List.getElem_drop]
  rw [hL]
  clear hL
  have HL := hideIt hl
  have HB := hideIt hB
  have HG := hideIt hget
  obtain ⟨q, hq⟩ : ∃ q, lead 10 L = q := ⟨_, rfl⟩
  have hq10 : q ≤ 10 ∧ q ≤ L.length := by rw [← hq]; exact lead_le 10 L
  have HQ := hideIt hq
  clear hl hB hget hq
  go_enter Tryz.func75, Tryz.ntmps75
  go_wp2
  go_loopw [3, 11] (fun vv ii wr => ∃ (i x j : Nat), i ≤ q ∧ i ≤ 9 ∧ vv = .int .u64 (x : Int) ∧ ii = .int .i64 (i : Int) ∧ Hid (x = un7 (L.take i)) ∧ Hid (x < 128 ^ i) ∧ wr = w.drewN j)
    (fun _ ii _ => 10 - (intOf ii).toNat)
  case atStart => exact ⟨0, 0, 0, by omega, by omega, rfl, rfl, by unfold Hid; rfl, by unfold Hid; decide, rfl⟩
  case round =>
    obtain ⟨i, x, j, hiq, hi9, rfl, rfl, HX, HV, rfl⟩ := hrel
    by_cases hend : at_ + i = n
    · have hlen : i = L.length := by rw [HL.out]; omega
      have hv : vOut L = (0, 0, 10) := by
        unfold vOut
        rw [HQ.out, if_neg (by omega), if_pos (by omega)]
      have HO := hideIt hv
      have e1 : (at_ : Int) + (i : Int) = (n : Int) := by omega
      clear hv hlen
      go_wp2
      go_quiet (fail)
      go_wp2
      go_ret
      rw [HO.out]
      exact ⟨rfl, (h.drewN _).setErr 10, grownBy_drewSet _ _ _ _ _⟩
    · have hlt : i < L.length := by have := HL.out; omega
      have hbn : at_ + i < B.length := by rw [HB.out]; have := HL.out; omega
      have cell := ob.cell (at_ + i) hbn
      rw [← HG.out i hlt hbn] at cell
      obtain ⟨b, hb⟩ : ∃ b, L[i] = b := ⟨_, rfl⟩
      have hbs : L[i]? = some b := by rw [List.getElem?_eq_getElem hlt, hb]
      have hgd : L.getD i 0 = b := by rw [List.getD_eq_getElem?_getD, hbs]; rfl
      have htk := un7_take_succ L i hlt
      rw [hb] at cell htk
      have i2 : (at_ : Int) + (i : Int) < (n : Int) := by have := HL.out; omega
      have i2' : ¬ ((at_ : Int) + (i : Int) = (n : Int)) := by omega
      have i3 : (0 : Int) ≤ (at_ : Int) + (i : Int) := by omega
      have e1 : ((at_ : Int) + (i : Int)).toNat = at_ + i := by omega
      by_cases hbreak : i = 9 ∧ 1 < b.toNat
      · have hv : vOut L = (0, 0, 12) := by
          unfold vOut
          rw [HQ.out]
          by_cases h10 : q = 10
          · rw [if_pos h10]
          · rw [if_neg h10, if_neg (by omega), if_pos ⟨by omega, by rw [← hbreak.1, hgd]; exact hbreak.2⟩]
        have HO := hideIt hv
        obtain ⟨rfl, hb1⟩ := hbreak
        have hb2 : (1 : Int) < (b.toNat : Int) := by omega
        clear hv hgd htk hbs hb
        go_wp2
        go_quiet (fail)
        go_wp2
        go_quiet (fail)
        go_wp2
        go_ret
        rw [HO.out]
        exact ⟨rfl, (h.drewN _).setErr 12, grownBy_drewSet _ _ _ _ _⟩
      · have st := v_step x i (b.toNat % 128) hi9 HV.out (by omega) (by intro q9; have : ¬ (1 < b.toNat) := fun z => hbreak ⟨q9, z⟩; omega)
        rw [HX.out, ← htk, show ((b.toNat % 128 : Nat) : Int) = (b.toNat : Int) % 128 by omega] at st
        have l7 := u8_low7 b
        have ST := hideIt st.1
        by_cases h128 : 128 ≤ b.toNat
        · have hi9' : i < 9 := by
            have : ¬ (i = 9) := fun z => hbreak ⟨z, by omega⟩
            omega
          have hne : ((i : Int) == 9) = false := by rw [beq_eq_false_iff_ne]; omega
          have hbi : (128 : Int) ≤ (b.toNat : Int) := by omega
          have hiq' : i + 1 ≤ q := by
            have : ¬ (q = i) := by
              intro z
              have := lead_stop 10 L (by rw [HQ.out]; omega) b (by rw [HQ.out, z]; exact hbs)
              omega
            omega
          have SB := hideIt st.2.1
          clear st htk hgd hbs hb hbreak h128
          go_wp2
          go_quiet (fail)
          go_wp2
          go_quiet (fail)
          go_wp2
          go_roundw
          case rel => exact ⟨i + 1, un7 (L.take (i + 1)), _, hiq', by omega, by rw [HX.out, ST.out], by go_num, hideIt rfl, SB, rfl⟩
          case measure => simp [intOf]; omega
        · have hqi : q = i := by
            have : ¬ (i < q) := by
              intro z
              obtain ⟨c', hc', h1⟩ := lead_big 10 L i (by rw [HQ.out]; exact z)
              rw [hbs] at hc'
              cases hc'
              omega
            omega
          have hsm : (b.toNat : Int) < 128 := by omega
          have hno9 : ¬ (q = 9 ∧ 1 < (L.getD 9 0).toNat) := by
            rintro ⟨z1, z2⟩
            have z3 : i = 9 := by omega
            rw [← z3, hgd] at z2
            exact hbreak ⟨z3, z2⟩
          by_cases hz : 0 < i ∧ b = 0
          · have hv : vOut L = (0, 0, 11) := by
              unfold vOut
              rw [HQ.out, if_neg (by omega), if_neg (by omega), if_neg hno9, if_pos ⟨by omega, by rw [hqi, hgd]; exact hz.2⟩]
            have HO := hideIt hv
            have hb0 : (b.toNat : Int) = 0 := by rw [hz.2]; rfl
            have hi0 : (0 : Int) < (i : Int) := by omega
            clear hv st htk hgd hbs hb hbreak h128 hno9 hz hsm ST
            by_cases h9 : i = 9
            all_goals
              first | (have hne : ((i : Int) == 9) = false := by rw [beq_eq_false_iff_ne]; omega) | (have hne : ((i : Int) == 9) = true := by rw [beq_iff_eq]; omega)
              clear h9
              go_wp2
              go_quiet (fail)
              go_wp2
              go_quiet (fail)
              go_wp2
              go_ret
              rw [HO.out]
              exact ⟨rfl, (h.drewN _).setErr 11, grownBy_drewSet _ _ _ _ _⟩
          · have hv : vOut L = (un7 (L.take (i + 1)), i + 1, 0) := by
              unfold vOut
              rw [HQ.out, if_neg (by omega), if_neg (by omega), if_neg hno9, if_neg (by rw [hqi, hgd]; exact hz), hqi]
            have HO := hideIt hv
            have hfin : at_ + (i + 1) ≤ B.length := by rw [HB.out]; have := HL.out; omega
            have hb9 : i = 9 → (b.toNat : Int) ≤ 1 := by intro z; have : ¬ (1 < b.toNat) := fun y => hbreak ⟨z, y⟩; omega
            have hz' : b = 0 → i = 0 := by intro z; have : ¬ (0 < i) := fun y => hz ⟨y, z⟩; omega
            clear hv htk hgd hbs hb hbreak h128 hno9 hz
            rcases Nat.eq_zero_or_pos i with hi0 | hi0
            · have hne : ((i : Int) == 9) = false := by rw [beq_eq_false_iff_ne]; omega
              have hd : (i : Int) ≤ 0 := by omega
              clear hi0 hb9 hz'
              by_cases hb0 : (b.toNat : Int) = 0
              · go_wp2
                go_quiet (fail)
                go_wp2
                go_quiet (fail)
                go_wp2
                go_ret
                rw [HO.out]
                refine ⟨?_, (h.drewN _).setAtI _ (at_ + (i + 1)) (by omega) hfin, grownBy_drewSet _ _ _ _ _⟩
                have z7 : IntKind.u64.wrap (bits BinOp.and IntKind.u8 0 127) = (b.toNat : Int) % 128 := by rw [hb0]; decide
                show Ending.returned (.int .u64 (bits BinOp.or IntKind.u64 (x : Int) (IntKind.u64.wrap (IntKind.u64.wrap (bits BinOp.and IntKind.u8 0 127) * 2 ^ (7 * i))))) = _
                rw [z7, HX.out, ST.out]
              · go_wp2
                go_quiet (fail)
                go_wp2
                go_quiet (fail)
                go_wp2
                go_ret
                rw [HO.out]
                exact ⟨by rw [HX.out, ST.out]; rfl, (h.drewN _).setAtI _ (at_ + (i + 1)) (by omega) hfin, grownBy_drewSet _ _ _ _ _⟩
            · have hb0 : ((b.toNat : Int) == 0) = false := by
                rw [beq_eq_false_iff_ne]
                intro z
                have : b = 0 := UInt8.toNat_inj.1 (by show b.toNat = 0; omega)
                have := hz' this
                omega
              have hi1 : (0 : Int) < (i : Int) := by omega
              by_cases h9 : i = 9
              · have hne : ((i : Int) == 9) = true := by rw [beq_iff_eq]; omega
                have hb1 := hb9 h9
                clear h9 hb9 hz'
                go_wp2
                go_quiet (fail)
                go_wp2
                go_quiet (fail)
                go_wp2
                go_ret
                rw [HO.out]
                exact ⟨by rw [HX.out, ST.out]; rfl, (h.drewN _).setAtI _ (at_ + (i + 1)) (by omega) hfin, grownBy_drewSet _ _ _ _ _⟩
              · have hne : ((i : Int) == 9) = false := by rw [beq_eq_false_iff_ne]; omega
                clear h9 hb9 hz'
                go_wp2
                go_quiet (fail)
                go_wp2
                go_quiet (fail)
                go_wp2
                go_ret
                rw [HO.out]
                exact ⟨by rw [HX.out, ST.out]; rfl, (h.drewN _).setAtI _ (at_ + (i + 1)) (by omega) hfin, grownBy_drewSet _ _ _ _ _⟩

set_option maxRecDepth 100000 in
set_option maxHeartbeats 1000000 in
theorem V_any (g : Nat) (B : List UInt8) (at_ : Nat) (er : Int) (w : World) (h : Rd w g B at_ er) :
    Calls Tryz.prog 75 #[.pointer (some ⟨g, 0, none⟩)] w fun en w' => en = .returned (.int .u64 ((vS B at_ er).1 : Nat)) ∧ Rd w' g B (vS B at_ er).2.1 (vS B at_ er).2.2 ∧ w.grownBy w' (some g) := by
  by_cases he : er = 0
  · subst he
    exact V_ok g B at_ w h
  · have e1 : vS B at_ er = (0, at_, er) := by unfold vS; rw [if_neg he]
    rw [e1]
    have hE : (er == 0) = false := beq_eq_false_iff_ne.2 he
    obtain ⟨gb, n, c, c0, c1, c2, f1, f2, ob, ne, la, ln, lc⟩ := h.laid
    go_enter Tryz.func75, Tryz.ntmps75
    go_wp2
    go_ret
    exact ⟨rfl, h, World.grownBy.refl _ _⟩
end Go.Proofs.YtmeakhiiebeneaaGreatDoor
namespace Go.Proofs.YtmeakhiiebeneaaGreatDoor
open Go.RowKit

set_option maxRecDepth 100000 in
set_option maxHeartbeats 1000000 in
theorem Get16_ok (g : Nat) (B : List UInt8) (at_ : Nat) (w : World) (h : Rd w g B at_ 0) (hk : at_ + 2 ≤ B.length) :
    Calls Tryz.prog 74 #[.pointer (some ⟨g, 0, none⟩)] w fun e w' => e = .returned (.int .u16 (unle ((B.drop at_).take 2) : Nat)) ∧ Rd w' g B (at_ + 2) 0 ∧ w.grownBy w' (some g) := by
  obtain ⟨L, hL⟩ : ∃ L, (B.drop at_).take 2 = L := ⟨_, rfl⟩
  have hl : L.length = 2 := by rw [← hL, List.length_take, List.length_drop]; omega
  have con := take_ok g B at_ 2 w h hk
  rw [hL] at con ⊢
  have hu := unle_lt L
  rw [hl] at hu
  clear hL
  have HL := hideIt hl
  clear hl
  go_enter Tryz.func74, Tryz.ntmps74
  go_wp2_with (first
    | (go_at_call 82; refine con.mono ?_; rintro e w1 ⟨A1, rfl, r1, d1, g1⟩)
    | (go_at_call 168; refine (width16_calls _).mono ?_; rintro e w2 ⟨rfl, rfl⟩))
  obtain ⟨ad, rfl, cells⟩ := r1.addr (by rw [r1.len]; decide)
  go_loopw [3, 10] (fun vv ii wr => ∃ (k v : Nat), k ≤ 2 ∧ vv = .int .u64 (v : Int) ∧ ii = .int .i64 (k : Int) ∧ Hid (v = unle (L.take k)) ∧ Hid (v < 256 ^ k) ∧ w1 = wr)
    (fun _ ii _ => 2 - (intOf ii).toNat)
  case atStart => exact ⟨0, 0, by omega, rfl, rfl, by unfold Hid; simp [unle], by unfold Hid; simp, by trivial⟩
  case round =>
    obtain ⟨k, v, hk2, rfl, rfl, HV, hv, rfl⟩ := hrel
    by_cases hlt : k < 2
    · have hkl : k < L.length := by rw [HL.out]; exact hlt
      have ck := cells k hkl
      have H := get_next hkl HV
      generalize L[k] = b at ck H
      have st := get_step v k b (by omega) hv.out
      have ST := hideIt st.1
      have SB := hideIt st.2
      clear cells st
      go_wp2
      go_roundw
      case rel => exact ⟨k + 1, v + 256 ^ k * b.toNat, by omega, by rw [ST.out], by go_num, H, SB, by trivial⟩
      case measure => simp [intOf]; omega
    · obtain rfl : k = 2 := by omega
      have ev : v = unle L := by rw [HV.out, List.take_of_length_le (by rw [HL.out]; exact Nat.le_refl _)]
      have vb : v < 256 ^ 2 := hv.out
      have EV := hideIt ev
      clear ev
      have vw := wrapu16_of v vb
      go_wp2
      go_ret
      rw [← EV.out]
      first | exact ⟨rfl, d1, g1⟩ | exact ⟨by rw [vw]; rfl, d1, g1⟩

set_option maxRecDepth 100000 in
set_option maxHeartbeats 1000000 in
theorem Get16_no (g : Nat) (B : List UInt8) (at_ : Nat) (er : Int) (w : World) (h : Rd w g B at_ er) (hno : ¬ (er = 0 ∧ at_ + 2 ≤ B.length)) :
    Calls Tryz.prog 74 #[.pointer (some ⟨g, 0, none⟩)] w fun e w' => e = .returned (.int .u16 0) ∧ Rd w' g B at_ (if er = 0 then 10 else er) ∧ w.grownBy w' (some g) := by
  have con := take_calls g B at_ er 2 w h (by omega)
  have hle := h.le
  have hn : ¬ (er = 0 ∧ (0 : Int) ≤ 2 ∧ (2 : Int) ≤ (B.length : Int) - (at_ : Int)) := by rintro ⟨q1, q2, q3⟩; exact hno ⟨q1, by omega⟩
  unfold Took at con
  simp only [if_neg hn] at con
  generalize (if er = 0 then 10 else er) = er' at con ⊢
  clear hle hno hn
  go_enter Tryz.func74, Tryz.ntmps74
  go_wp2_with (first
    | (go_at_call 82; refine con.mono ?_; rintro e w1 ⟨r1, rfl, ⟨rfl, d1⟩, g1⟩)
    | (go_at_call 168; refine (width16_calls _).mono ?_; rintro e w2 ⟨rfl, rfl⟩))
  go_loopw [3, 10] (fun vv ii wr => vv = .int .u64 0 ∧ ii = .int .i64 0 ∧ w1 = wr) (fun _ _ _ => 0)
  case atStart => exact ⟨rfl, rfl, by trivial⟩
  case round =>
    obtain ⟨rfl, rfl, rfl⟩ := hrel
    go_wp2
    go_ret
    exact ⟨rfl, d1, g1⟩

theorem Get16_any (g : Nat) (B : List UInt8) (at_ : Nat) (er : Int) (w : World) (h : Rd w g B at_ er) :
    Calls Tryz.prog 74 #[.pointer (some ⟨g, 0, none⟩)] w fun e w' => e = .returned (.int .u16 ((numS B at_ er 2).1 : Nat)) ∧ Rd w' g B (numS B at_ er 2).2.1 (numS B at_ er 2).2.2 ∧ w.grownBy w' (some g) := by
  by_cases hy : er = 0 ∧ at_ + 2 ≤ B.length
  · have e1 : numS B at_ er 2 = (unle ((B.drop at_).take 2), at_ + 2, 0) := by unfold numS; rw [if_pos hy]
    rw [e1]
    obtain ⟨rfl, hy⟩ := hy
    exact Get16_ok g B at_ w h hy
  · have e1 : numS B at_ er 2 = (0, at_, if er = 0 then 10 else er) := by unfold numS; rw [if_neg hy]
    rw [e1]
    exact Get16_no g B at_ er w h hy
end Go.Proofs.YtmeakhiiebeneaaGreatDoor
namespace Go.Proofs.YtmeakhiiebeneaaGreatDoor
open Go.RowKit

set_option maxRecDepth 100000 in
set_option maxHeartbeats 1000000 in
theorem Get32_ok (g : Nat) (B : List UInt8) (at_ : Nat) (w : World) (h : Rd w g B at_ 0) (hk : at_ + 4 ≤ B.length) :
    Calls Tryz.prog 95 #[.pointer (some ⟨g, 0, none⟩)] w fun e w' => e = .returned (.int .u32 (unle ((B.drop at_).take 4) : Nat)) ∧ Rd w' g B (at_ + 4) 0 ∧ w.grownBy w' (some g) := by
  obtain ⟨L, hL⟩ : ∃ L, (B.drop at_).take 4 = L := ⟨_, rfl⟩
  have hl : L.length = 4 := by rw [← hL, List.length_take, List.length_drop]; omega
  have con := take_ok g B at_ 4 w h hk
  rw [hL] at con ⊢
  have hu := unle_lt L
  rw [hl] at hu
  clear hL
  have HL := hideIt hl
  clear hl
  go_enter Tryz.func95, Tryz.ntmps95
  go_wp2_with (first
    | (go_at_call 82; refine con.mono ?_; rintro e w1 ⟨A1, rfl, r1, d1, g1⟩)
    | (go_at_call 170; refine (width32_calls _).mono ?_; rintro e w2 ⟨rfl, rfl⟩))
  obtain ⟨ad, rfl, cells⟩ := r1.addr (by rw [r1.len]; decide)
  go_loopw [3, 10] (fun vv ii wr => ∃ (k v : Nat), k ≤ 4 ∧ vv = .int .u64 (v : Int) ∧ ii = .int .i64 (k : Int) ∧ Hid (v = unle (L.take k)) ∧ Hid (v < 256 ^ k) ∧ w1 = wr)
    (fun _ ii _ => 4 - (intOf ii).toNat)
  case atStart => exact ⟨0, 0, by omega, rfl, rfl, by unfold Hid; simp [unle], by unfold Hid; simp, by trivial⟩
  case round =>
    obtain ⟨k, v, hk2, rfl, rfl, HV, hv, rfl⟩ := hrel
    by_cases hlt : k < 4
    · have hkl : k < L.length := by rw [HL.out]; exact hlt
      have ck := cells k hkl
      have H := get_next hkl HV
      generalize L[k] = b at ck H
      have st := get_step v k b (by omega) hv.out
      have ST := hideIt st.1
      have SB := hideIt st.2
      clear cells st
      go_wp2
      go_roundw
      case rel => exact ⟨k + 1, v + 256 ^ k * b.toNat, by omega, by rw [ST.out], by go_num, H, SB, by trivial⟩
      case measure => simp [intOf]; omega
    · obtain rfl : k = 4 := by omega
      have ev : v = unle L := by rw [HV.out, List.take_of_length_le (by rw [HL.out]; exact Nat.le_refl _)]
      have vb : v < 256 ^ 4 := hv.out
      have EV := hideIt ev
      clear ev
      have vw := wrapu32_of v vb
      go_wp2
      go_ret
      rw [← EV.out]
      first | exact ⟨rfl, d1, g1⟩ | exact ⟨by rw [vw]; rfl, d1, g1⟩

set_option maxRecDepth 100000 in
set_option maxHeartbeats 1000000 in
theorem Get32_no (g : Nat) (B : List UInt8) (at_ : Nat) (er : Int) (w : World) (h : Rd w g B at_ er) (hno : ¬ (er = 0 ∧ at_ + 4 ≤ B.length)) :
    Calls Tryz.prog 95 #[.pointer (some ⟨g, 0, none⟩)] w fun e w' => e = .returned (.int .u32 0) ∧ Rd w' g B at_ (if er = 0 then 10 else er) ∧ w.grownBy w' (some g) := by
  have con := take_calls g B at_ er 4 w h (by omega)
  have hle := h.le
  have hn : ¬ (er = 0 ∧ (0 : Int) ≤ 4 ∧ (4 : Int) ≤ (B.length : Int) - (at_ : Int)) := by rintro ⟨q1, q2, q3⟩; exact hno ⟨q1, by omega⟩
  unfold Took at con
  simp only [if_neg hn] at con
  generalize (if er = 0 then 10 else er) = er' at con ⊢
  clear hle hno hn
  go_enter Tryz.func95, Tryz.ntmps95
  go_wp2_with (first
    | (go_at_call 82; refine con.mono ?_; rintro e w1 ⟨r1, rfl, ⟨rfl, d1⟩, g1⟩)
    | (go_at_call 170; refine (width32_calls _).mono ?_; rintro e w2 ⟨rfl, rfl⟩))
  go_loopw [3, 10] (fun vv ii wr => vv = .int .u64 0 ∧ ii = .int .i64 0 ∧ w1 = wr) (fun _ _ _ => 0)
  case atStart => exact ⟨rfl, rfl, by trivial⟩
  case round =>
    obtain ⟨rfl, rfl, rfl⟩ := hrel
    go_wp2
    go_ret
    exact ⟨rfl, d1, g1⟩

theorem Get32_any (g : Nat) (B : List UInt8) (at_ : Nat) (er : Int) (w : World) (h : Rd w g B at_ er) :
    Calls Tryz.prog 95 #[.pointer (some ⟨g, 0, none⟩)] w fun e w' => e = .returned (.int .u32 ((numS B at_ er 4).1 : Nat)) ∧ Rd w' g B (numS B at_ er 4).2.1 (numS B at_ er 4).2.2 ∧ w.grownBy w' (some g) := by
  by_cases hy : er = 0 ∧ at_ + 4 ≤ B.length
  · have e1 : numS B at_ er 4 = (unle ((B.drop at_).take 4), at_ + 4, 0) := by unfold numS; rw [if_pos hy]
    rw [e1]
    obtain ⟨rfl, hy⟩ := hy
    exact Get32_ok g B at_ w h hy
  · have e1 : numS B at_ er 4 = (0, at_, if er = 0 then 10 else er) := by unfold numS; rw [if_neg hy]
    rw [e1]
    exact Get32_no g B at_ er w h hy
end Go.Proofs.YtmeakhiiebeneaaGreatDoor
namespace Go.Proofs.YtmeakhiiebeneaaGreatDoor
open Go.RowKit

set_option maxRecDepth 100000 in
set_option maxHeartbeats 1000000 in
theorem Err_calls (g : Nat) (B : List UInt8) (at_ : Nat) (e : Int) (w : World) (h : Rd w g B at_ e) :
    Calls Tryz.prog 76 #[.pointer (some ⟨g, 0, none⟩)] w fun en w' => en = .returned (.tuple #[.int .i64 e, .int .i64 (at_ : Int)]) ∧ ∃ j, w' = w.drewN j := by
  obtain ⟨gb, n, c, c0, c1, c2, f1, f2, ob, ne, la, ln, lc⟩ := h.laid
  go_enter Tryz.func76, Tryz.ntmps76
  go_wp2
  go_quiet (fail)
  go_wp2
  go_ret2
  exact ⟨rfl, _, rfl⟩
end Go.Proofs.YtmeakhiiebeneaaGreatDoor
