/- coppicelaw5.edited, coppicelaw5.BranchDecodes. -/
import Derived.Test.YthboanaogfmefaaQi
import Derived.Test.YthboanaogfmefaaQd
namespace Go.Proofs.Ythboanaogfmefaa
open Go.RowKit

/-! ### a slice of edits -/
def edCells : List (Int × UInt8) → List Value
  | [] => []
  | k :: l => .int .i64 k.1 :: .int .u8 (k.2.toNat : Int) :: edCells l
theorem edCells_length (l : List (Int × UInt8)) : (edCells l).length = l.length * 2 := by
  induction l with
  | nil => rfl
  | cons k l ih => rw [edCells, List.length_cons, List.length_cons, ih, List.length_cons]; omega
theorem edCells_get (l : List (Int × UInt8)) (j : Nat) (k : Int × UInt8) (h : l[j]? = some k) : (edCells l)[j * 2]? = some (.int .i64 k.1) ∧ (edCells l)[j * 2 + 1]? = some (.int .u8 (k.2.toNat : Int)) := by
  induction l generalizing j with
  | nil => simp at h
  | cons a l ih =>
    cases j with
    | zero => simp at h; subst h; exact ⟨rfl, rfl⟩
    | succ j =>
      have := ih j (by simpa using h)
      rw [show (j + 1) * 2 = j * 2 + 1 + 1 by omega]
      exact this
def RE (w : World) (A : Option Addr) (n c : Nat) (l : List (Int × UInt8)) : Prop := RC w 2 A n c (edCells l)
theorem RE.below {w w' : World} {A : Option Addr} {n c : Nat} {l : List (Int × UInt8)} (h : RE w A n c l) (hb : Below w.heap.size w w') : RE w' A n c l := RC.below h hb
theorem RE.max {w : World} {A : Option Addr} {n c : Nat} {l : List (Int × UInt8)} (h : RE w A n c l) : n ≤ 9223372036854775807 := by
  have h1 := RC.le h; have h2 := RC.mx h; rw [maxLen_is] at h2; omega
theorem RE.at_ {w : World} {A : Option Addr} {n c : Nat} {l : List (Int × UInt8)} (h : RE w A n c l) (j : Nat) (hj : j < n) : ∃ ad x y, A = some ad ∧ w.cell? (ad.add (j * 2)) = some (.int .i64 x) ∧ w.cell? ⟨(ad.add (j * 2)).block, (ad.add (j * 2)).off + 1, none⟩ = some (.int .u8 ((y : UInt8).toNat : Int)) := by
  obtain ⟨ad, rfl, hc⟩ := RC.drop0 h (by omega)
  have hl : l.length = n := by have := RC.len h; rw [edCells_length] at this; omega
  obtain ⟨g1, g2⟩ := edCells_get l j _ (List.getElem?_eq_getElem (by omega))
  have q2 := hc _ _ g2
  refine ⟨ad, l[j].1, l[j].2, rfl, hc _ _ g1, ?_⟩
  rw [← q2]
  congr 1
  rw [← Addr.add_add]
  generalize ad.add (j * 2) = b
  unfold Addr.add
  rw [if_neg (by decide)]

def EdOut (n : Nat) (w : World) (e : Ending) (w' : World) : Prop := ∃ g c' ys, e = .returned (.slice (some ⟨g, 0, none⟩) n c') ∧ OB w' g n c' ys ∧ Below w.heap.size w w'
set_option maxRecDepth 100000 in
set_option maxHeartbeats 4000000 in
theorem edited_calls (A : Option Addr) (n c : Nat) (b : List UInt8) (B : Option Addr) (m d : Nat) (l : List (Int × UInt8)) (w : World) (h : RB w A n c b) (hn : n ≤ 100000) (he : RE w B m d l) :
    Calls Try.prog 27 #[.slice A n c, .slice B m d] w (EdOut n w) := by
  have mm := he.max
  go_enter Try.func27, Try.ntmps27
  go_upto_region 2 with (go_at_call 33; refine (Bytes_calls _ _ _ _ _ h (by omega)).mono ?_; rintro en w1 ⟨g1, c1, rfl, s1, o1, x1⟩)
  clear h
  go_wp2
  go_loopw [6] (fun ii wr => ∃ (i : Nat) (ys : List UInt8), i ≤ m ∧ i ≤ 20 ∧ ii = .int .i64 (i : Int) ∧ OB wr g1 n c1 ys ∧ Below w.heap.size w wr)
    (fun ii _ => 20 - (intOf ii).toNat)
  case atStart => exact ⟨0, b, by omega, by omega, rfl, o1, x1⟩
  case round =>
    clear o1 x1
    obtain ⟨i, ys, hi, hi2, rfl, o, bw⟩ := hrel
    by_cases h1 : i < m
    · have t1 : decide (i < m) = true := decide_eq_true h1
      have t1' : (i : Int) < (m : Int) := by omega
      by_cases h2 : i < 20
      · have t2 : decide ((i : Int) < 20) = true := decide_eq_true (by omega)
        rcases Nat.eq_zero_or_pos n with h3 | h3
        · subst h3
          clear h1 h2
          go_wp2
          go_ret
          exact ⟨_, _, _, rfl, o, bw⟩
        · have t3 : decide ((0 : Int) < (n : Int)) = true := decide_eq_true (by omega)
          have t3' : decide (0 < n) = true := decide_eq_true h3
          obtain ⟨ad, ex, ey, rfl, ce1, ce2⟩ := (he.below bw).at_ i h1
          obtain ⟨r, q, hr, hr1, hr2, hq, hqn⟩ := place ex n h3
          have hq' : (r + (n : Int)) % (n : Int) = (q : Int) := by rw [← hq]; simp
          have q0 : (q : Int) < (n : Int) := by omega
          obtain ⟨y, hy⟩ : ∃ y, ys.getD q 0 = y := ⟨_, rfl⟩
          have HY := hideIt hy
          have cq := byte_cell o hqn HY
          have fq := OB.free o q
          have o3 := byte_turn o q y ey
          have gx := grownBy_set wr g1 q (.int .u8 (bits .xor .u8 (y.toNat : Int) (ey.toNat : Int)))
          have b3 := below_grown bw gx bw.size (by intro k hk; cases hk; exact s1)
          have o4 := o3.below (drew1 _)
          have b4 := b3.drew
          generalize ys.set q (y ^^^ ey) = zs at o4
          have i9 : i + 1 ≤ 20 := h2
          have i8 : i + 1 ≤ m := h1
          clear hy hq h1 h2 h3 o o3 b3 gx
          go_wp2
          go_region
          all_goals
            go_wp2
            go_roundw
            case rel => exact ⟨i + 1, zs, by omega, by omega, by go_num, o4, b4⟩
            case measure => simp [intOf]; omega
      · have t2 : decide ((i : Int) < 20) = false := decide_eq_false (by omega)
        clear h1 h2
        go_wp2
        go_ret
        exact ⟨_, _, _, rfl, o, bw⟩
    · have t1 : decide (i < m) = false := decide_eq_false h1
      have t1' : ¬ (i : Int) < (m : Int) := by omega
      clear h1
      go_wp2
      go_ret
      exact ⟨_, _, _, rfl, o, bw⟩

set_option maxRecDepth 100000 in
set_option maxHeartbeats 2000000 in
theorem BranchDecodes_walk (A0 : Option Addr) (n0 c0 : Nat) (b : List UInt8) (level : Int) (A : Option Addr) (n c : Nat) (vs : List Value) (l : List (List UInt8)) (B : Option Addr) (m d : Nat) (ks : List (Int × Int)) (C : Option Addr) (p r : Nat) (es : List (Int × UInt8)) (w : World) (h0 : RB w A0 n0 c0 b) (_y0 : n0 ≤ 140737488351232) (_hz : -9223372036854775808 ≤ level ∧ level ≤ 9223372036854775807) (h : RM w A n c vs l) (hk : RK w B m d ks) (he : RE w C p r es) :
    Calls Try.prog 6 #[.slice A0 n0 c0, .int .i64 level, .slice A n c, .slice B m d, .slice C p r] w fun e w' => e = .returned (.bool true) ∧ Below w.heap.size w w' := by
  have FW := fun W q => few_calls A n c vs l B m d W q
  obtain ⟨f, hf⟩ : ∃ f, fewS l m = f := ⟨_, rfl⟩
  rw [hf] at FW
  have HF := hideIt hf
  clear hf
  go_enter Try.func6, Try.ntmps6
  go_upto_region 2 with (go_at_call 12; refine (first_calls _).mono ?_; rintro en w1 ⟨rfl, b1⟩)
  have h01 := h0.below b1
  have h1 := h.below b1
  have k1 := hk.below b1
  have e1 := he.below b1
  clear h0 h hk he
  by_cases hn : n0 ≤ 65536
  · have t1 : decide ((65536 : Int) < (n0 : Int)) = false := decide_eq_false (by omega)
    cases f
    · go_wp2_with (go_at_call 13; refine (FW _ h1).mono ?_; rintro en wx ⟨rfl, rfl⟩)
      go_ret
      exact ⟨rfl, b1⟩
    have ff := few_few HF.out h1.len
    go_upto_region 4 with (go_at_call 13; refine (FW _ h1).mono ?_; rintro en wx ⟨rfl, rfl⟩)
    clear FW
    go_upto_region 5 with (go_at_call 26; refine (decodes_calls _ _ _ _ _ h01 (by omega)).mono ?_; rintro en w2 ⟨rfl, x2⟩)
    have h2 := h1.below x2
    have k2 := k1.below x2
    have e2 := e1.below x2
    have b2 := blw_step b1 x2
    clear h01 h1 k1 e1 b1 x2
    have EN := refEncode_calls level _ _ _ _ _ _ _ _ _ _ h2 ff k2
    unfold EncOut at EN
    have LN : Hid ((encB level l ks).1.length ≤ 4092) := hideIt (by
      unfold encB
      by_cases hw : wrongS level l ks = 0
      · rw [if_pos hw]; exact Nat.le_of_eq (bodyB_length (ok_of hw))
      · rw [if_neg hw]; exact Nat.zero_le _)
    obtain ⟨bd, cd, hen⟩ : ∃ bd cd, encB level l ks = (bd, cd) := ⟨_, _, rfl⟩
    rw [hen] at EN LN
    clear hen
    go_upto_region 6 with (go_at_call 23; refine EN.mono ?_; rintro en w3 ⟨A3, n3, rfl, g3, x3⟩)
    have e3 := e2.below x3
    have b3 := blw_step b2 x3
    have r3 := GB.read g3
    have l3 : n3 ≤ 4092 := by have := r3.len; have := LN.out; omega
    clear EN h2 k2 e2 b2 x3 g3
    by_cases hcd : cd = 0
    · subst hcd
      go_upto_region 9 with (go_at_call 26; refine (decodes_calls _ _ _ _ _ r3 (by omega)).mono ?_; rintro en w4 ⟨rfl, x4⟩)
      have e4 := e3.below x4
      have r4 := r3.below x4
      have b4 := blw_step b3 x4
      clear e3 r3 b3 x4
      go_wp2_with (first
        | (go_at_call 26; refine (decodes_calls _ _ _ _ _ o5.read (by omega)).mono ?_; rintro en w6 ⟨rfl, x6⟩; have b6 := blw_step b5 x6)
        | (go_at_call 27; refine (edited_calls _ _ _ _ _ _ _ _ _ r4 (by omega) e4).mono ?_; rintro en w5 ⟨g5, c5, ys, rfl, o5, x5⟩; have b5 := blw_step b4 x5))
      go_ret
      exact ⟨rfl, b6⟩
    · have z0 : (cd != 0) = true := by rw [bne_iff_ne]; exact hcd
      clear hcd
      go_wp2
      go_ret
      exact ⟨rfl, b3⟩
  · have t1 : decide ((65536 : Int) < (n0 : Int)) = true := decide_eq_true (by omega)
    clear hn
    go_wp2
    go_ret
    exact ⟨rfl, b1⟩
end Go.Proofs.Ythboanaogfmefaa
