/- leaf.prefix, chained, tag, Size. -/
import Derived.Test.YtieoleiokjoccaaFb
import Derived.Test.YtieoleiokjoccaaKeyP
import Derived.Test.YtieoleiokjoccaaVb
import Derived.Deep.CutRange
import Derived.Deep.QuietTactic
import Derived.BigQuiet
namespace Go.Proofs.Ytieoleiokjoccaa
open Go.RowKit

/-- few and short enough that no sum wraps. -/
structure FewT (n : Nat) (l : List It) : Prop where
  n : n ≤ 70000
  s : ∀ x ∈ l, x.k.length ≤ 10000
theorem FewT.sum {n : Nat} {l : List It} (h : FewT n l) (hl : l.length = n) (p : Nat) : sumT p l ≤ 737400000 := by
  have h1 := sumT_le p 10000 l h.s
  have h2 : l.length * (10000 + 534) ≤ 70000 * (10000 + 534) := Nat.mul_le_mul_right _ (by rw [hl]; exact h.n)
  omega
theorem FewT.pre {n : Nat} {l : List It} (h : FewT n l) : preT l ≤ 10000 := by
  cases l with
  | nil => exact Nat.zero_le _
  | cons x l =>
    have h1 := (preT_le (x :: l) x (by simp)).2
    have h2 := h.s x (by simp)
    omega
def slotOf : Value → Option Addr × Nat × Nat
  | .slice A n c => (A, n, c)
  | _ => (none, 0, 0)
/-- the keys' slices. -/
def keysP (vs : List Value) (n : Nat) : List (Option Addr × Nat × Nat) := (List.range n).map fun j => slotOf (vs.getD (j * 4) (.bool false))
theorem keysP_length (vs : List Value) (n : Nat) : (keysP vs n).length = n := by simp [keysP]
theorem keysP_get {vs : List Value} {n j : Nat} {p : Option Addr × Nat × Nat} (hj : j < n) (h : vs[j * 4]? = some (sv p)) : (keysP vs n)[j]? = some p := by
  unfold keysP
  rw [List.getElem?_map, List.getElem?_range hj, Option.map_some, List.getD_eq_getElem?_getD, h]
  rfl
theorem RT.keys {w w' : World} {A B : Option Addr} {n c c' : Nat} {vs : List Value} {l : List It} (h : RT w A n c vs l) (hr : RC w' 1 B n c' ((keysP vs n).map sv)) (b : Below w.heap.size w w') : RM w' B n c' ((keysP vs n).map sv) (keysT l) :=
  ⟨hr, by rw [keysT_length, h.len], fun j xs hj => by
    obtain ⟨x, hx, rfl⟩ : ∃ x, l[j]? = some x ∧ x.k = xs := by
      unfold keysT at hj
      rw [List.getElem?_map] at hj
      rcases hz : l[j]? with _ | z
      · rw [hz] at hj; cases hj
      · rw [hz] at hj; cases hj; exact ⟨z, rfl, rfl⟩
    obtain ⟨p, q, e0, -, -, -, r1, -⟩ := h.each j x hx
    have hjn : j < n := by rw [← h.len]; exact (List.getElem?_eq_some_iff.1 hx).1
    exact ⟨p.1, p.2.1, p.2.2, by rw [List.getElem?_map, keysP_get hjn e0]; rfl, r1.below b⟩⟩
theorem take_sv {ps : List (Option Addr × Nat × Nat)} {i : Nat} {p : Option Addr × Nat × Nat} (h : ps[i]? = some p) : (ps.take i).map sv ++ [sv p] = (ps.take (i + 1)).map sv := by
  rw [List.take_add_one, h, List.map_append]; rfl

set_option maxRecDepth 100000 in
set_option maxHeartbeats 2000000 in
theorem prefix_calls (A : Option Addr) (n c : Nat) (vs : List Value) (l : List It) (w : World) (h : RT w A n c vs l) (hn : n ≤ 70000) :
    Calls Try.prog 32 #[.slice A n c] w fun e w' => e = .returned (.int .i64 (preT l : Nat)) ∧ Below w.heap.size w w' := by
  go_enter Try.func32, Try.ntmps32
  go_wp2
  go_loopw [3, 8] (fun ll ii wr => ∃ (i c2 : Nat) (A2 : Option Addr), i ≤ n ∧ ii = .int .i64 (i : Int) ∧ ll = .slice A2 i c2 ∧ GC wr w.heap.size 34 1 A2 i c2 (((keysP vs n).take i).map sv) ∧ Below w.heap.size w wr)
    (fun _ ii _ => n - (intOf ii).toNat)
  case atStart => exact ⟨0, 0, none, by omega, rfl, rfl, GC.nil _ _ _ _, Below.refl _ _⟩
  case round =>
    obtain ⟨i, c2, A2, hi, rfl, rfl, gc, b⟩ := hrel
    by_cases hlt : i < n
    · obtain ⟨ad, ⟨A1, n1, c1⟩, ⟨A3, n3, c3⟩, x, rfl, hx, it, -, -⟩ := (h.below b).row i hlt
      obtain ⟨ad', p, q, x', e', hx', it', -, -⟩ := h.row i hlt
      have hps : (keysP vs n)[i]? = some (A1, n1, c1) := by
        obtain ⟨p, q, e0, -, -, -, -, -⟩ := h.each i x hx
        have hc := (h.below b).rc.cell ad rfl _ _ e0
        rw [it.c0] at hc
        injection hc with hc
        obtain ⟨pa, pn, pc⟩ := p
        simp only [sv] at hc
        cases hc
        exact keysP_get hlt e0
      have HT := hideIt (take_sv hps)
      obtain ⟨i0, i1, i2, i3⟩ := it
      simp only at i0 i1
      have xs := x.s
      have ba := below1 wr (.cells #[.slice A1 n1 c1, .slice A3 n3 c3, .int .i64 x.s, .int .i64 x.f] 48)
      have bb := below1 (wr.alloc (.cells #[.slice A1 n1 c1, .slice A3 n3 c3, .int .i64 x.s, .int .i64 x.f] 48)) (.cells #[.slice A1 n1 c1] 34)
      have g2 := GC.below (GC.below gc ba) bb
      have b2 := blw_step (blw_step b ba) bb
      have s2 := b2.size
      have r2 := sv_cell (wr.alloc (.cells #[.slice A1 n1 c1, .slice A3 n3 c3, .int .i64 x.s, .int .i64 x.f] 48)) (A1, n1, c1)
      rw [show (wr.alloc (.cells #[.slice A1 n1 c1, .slice A3 n3 c3, .int .i64 x.s, .int .i64 x.f] 48)).heap.size = wr.heap.size + 1 by simp] at r2
      have j1 : (i : Int) < (n : Int) := by omega
      clear hps it' e' hx'
      go_wp2_with (with_reducible refine wpM_app rfl (.tmp 12) (.tmp 15) rfl w.heap.size _ _ _ _ rfl g2 _ (A1, n1, c1) rfl r2 (by omega) s2 ?_; intro g4 c4 w4 q4 o4 k4)
      have b4 := g2.under b2 k4 s2
      rw [HT.out] at o4
      go_roundw
      case rel => exact ⟨i + 1, c4, _, by omega, by go_num, rfl, GC.of o4 q4, b4⟩
      case measure => simp [intOf]; omega
    · obtain rfl : n = i := by omega
      rw [List.take_of_length_le (by rw [keysP_length]; exact Nat.le_refl _)] at gc
      have rm := h.keys (GC.read gc) b
      go_wp2_with (go_at_call 58; refine (CommonAll_calls _ _ _ _ _ _ rm).mono ?_; rintro en w1 ⟨rfl, b1⟩)
      go_ret
      exact ⟨rfl, blw_step b b1⟩

theorem chained_calls (z : Int) (r : Bool) (w : World) (hr : decide (512 < z) = r) :
    Calls Try.prog 35 #[.int .i64 z] w fun e w' => e = .returned (.bool r) ∧ w = w' := by
  subst hr
  go_enter Try.func35, Try.ntmps35
  go_wp2
  go_ret
  exact ⟨rfl, rfl⟩
theorem u64_wrap (x : Nat) (h : x ≤ 1000000) : IntKind.u64.wrap (x : Int) = (x : Int) := by rw [IntKind.wrap_u64]; omega
theorem tag_calls (m : Nat) (w : World) (hm : m ≤ 262144) :
    Calls Try.prog 34 #[.int .i64 (m : Int)] w fun e w' => e = .returned (.int .u64 (tagT m : Nat)) ∧ w = w' := by
  have e1 := u64_wrap m (by omega)
  by_cases h : 512 < m
  · have et : ((tagT m : Nat) : Int) = 2 * (m : Int) + 1 := by unfold tagT; rw [if_pos h]; omega
    have CH := fun W => chained_calls (m : Int) true W (decide_eq_true (by omega))
    rw [et]
    clear h et
    go_enter Try.func34, Try.ntmps34
    go_wp2_with (go_at_call 35; refine (CH _).mono ?_; rintro en wx ⟨rfl, rfl⟩)
    go_ret
    exact ⟨rfl, rfl⟩
  · have et : ((tagT m : Nat) : Int) = 2 * (m : Int) := by unfold tagT; rw [if_neg h]; omega
    have CH := fun W => chained_calls (m : Int) false W (decide_eq_false (by omega))
    rw [et]
    clear h et
    go_enter Try.func34, Try.ntmps34
    go_wp2_with (go_at_call 35; refine (CH _).mono ?_; rintro en wx ⟨rfl, rfl⟩)
    go_ret
    exact ⟨rfl, rfl⟩
theorem VLenT (x : Nat) (w : World) (hx : x ≤ 1000000) : Calls Try.prog 33 #[.int .u64 (x : Int)] w fun e w' => e = .returned (.int .i64 (vl x : Nat)) ∧ w = w' := VLen_calls x w (by omega)
theorem clamp_parts (s : Int) : ∃ M : Int, (∀ (ts : Array TypeId) (t : TypeId) (w : World), (Builtin.max_ ts t #[.int .i64 s, .int .i64 0]).run Try.prog w = .ok (.int .i64 M) w) ∧ (∀ (ts : Array TypeId) (t : TypeId) (w : World), (Builtin.min_ ts t #[.int .i64 M, .int .i64 262144]).run Try.prog w = .ok (.int .i64 (clampT s : Nat)) w) := by
  refine ⟨max s 0, fun ts t w => ?_, fun ts t w => ?_⟩
  · rw [run_max_int2]; congr 2; split <;> omega
  · rw [run_min_int2]; unfold clampT; congr 2; split <;> omega

set_option maxRecDepth 100000 in
set_option maxHeartbeats 4000000 in
theorem Size_calls (A : Option Addr) (n c : Nat) (vs : List Value) (l : List It) (w : World) (h : RT w A n c vs l) (hf : FewT n l) :
    Calls Try.prog 14 #[.slice A n c] w fun e w' => e = .returned (.int .i64 (sizeT l : Nat)) ∧ Below w.heap.size w w' := by
  have HL := hideIt h.len
  have n7 := hf.n
  have hp := hf.pre
  have hsum := hf.sum h.len
  have HM := hideIt (fun x (hs : x ∈ l) => And.intro (preT_le l x hs).2 (hf.s x hs))
  obtain ⟨r, hr⟩ : ∃ r, sizeT l = r := ⟨_, rfl⟩
  have hS : 3 + vl (preT l) + preT l + sumT (preT l) l = r := hr
  rw [hr]
  have CA := fun W q => prefix_calls A n c vs l W q n7
  generalize preT l = p at *
  have vb := (vl_bounds p).2
  have sl := hsum p
  have VP := fun W => VLenT p W (by omega)
  have up := u64_wrap p (by omega)
  generalize vl p = v at *
  have HS := hideIt hS
  clear hS hr hsum
  go_enter Try.func14, Try.ntmps14
  go_upto_region 3 with (first
    | (go_at_call 33; refine (VP _).mono ?_; rintro en wx ⟨rfl, rfl⟩)
    | (go_at_call 32; refine (CA _ h).mono ?_; rintro en w1 ⟨rfl, b1⟩))
  clear VP up CA
  go_wp2
  go_loopw [4, 19] (fun nn ii wr => ∃ (i N : Nat), i ≤ n ∧ ii = .int .i64 (i : Int) ∧ nn = .int .i64 (N : Int) ∧ Hid (N = 3 + v + p + sumT p (l.take i)) ∧ N ≤ 3 + v + p + 737400000 ∧ Below w.heap.size w wr)
    (fun _ ii _ => n - (intOf ii).toNat)
  case atStart => exact ⟨0, 3 + v + p, by omega, rfl, by go_num, hideIt (by simp [sumT]), by omega, b1⟩
  case round =>
    clear b1
    obtain ⟨i, N, hi, rfl, rfl, HN, Nb, b⟩ := hrel
    by_cases hlt : i < n
    · obtain ⟨ad, ⟨A1, n1, c1⟩, ⟨A3, n3, c3⟩, x, rfl, hx, ⟨i0, i1, i2, i3⟩, rk, -⟩ := (h.below b).row i hlt
      simp only at i0 i1 rk
      have hsl := rk.len
      have hm := HM.out x (List.mem_of_getElem? hx)
      have st := sumT_step p l i x hx
      have le := sumT_take_le p l (i + 1)
      obtain ⟨d, hd⟩ : ∃ d, n1 - p = d := ⟨_, rfl⟩
      have hd2 : (n1 : Int) - (p : Int) = (d : Int) := by omega
      have ud := u64_wrap d (by omega)
      have VD := fun W => VLenT d W (by omega)
      have db := (vl_bounds d).2
      obtain ⟨M, hmax, hmin⟩ := clamp_parts x.s
      have hpart : partT p x = 2 + vl d + d + vl (tagT (clampT x.s)) + inT (clampT x.s) := by unfold partT; rw [hsl, hd]
      rw [hpart] at st
      rw [st] at le
      have cl := clampT_le x.s
      generalize clampT x.s = q at *
      have tq := tagT_le q cl
      have TG := fun W => tag_calls q W cl
      have VT := fun W => VLenT (tagT q) W (by omega)
      have tb := (vl_bounds (tagT q)).2
      have ib := inT_le q
      obtain ⟨z, hz⟩ : ∃ z, inT q = z := ⟨_, rfl⟩
      have CH := fun W => chained_calls (q : Int) (decide (512 < (q : Int))) W rfl
      unfold inT at hz
      rw [show inT q = z from hz] at st le ib
      generalize tagT q = tg at *
      generalize vl tg = vt at *
      generalize vl d = u at *
      have ST := hideIt st
      have NN := HN.out
      have dl : d ≤ 10000 := by omega
      have pn : p ≤ n1 := by omega
      have nl : n1 ≤ 10000 := by omega
      have Nb2 : N + (2 + u + d + vt + z) ≤ 3 + v + p + 737400000 := by omega
      have j1 : (i : Int) < (n : Int) := by omega
      have e1 : (2 : Int) + (u : Int) + (n1 : Int) - (p : Int) = (2 : Int) + (u : Int) + (d : Int) := by omega
      have ba := below1 wr (.cells #[.slice A1 n1 c1, .slice A3 n3 c3, .int .i64 x.s, .int .i64 x.f] 48)
      have b2 := blw_step b ba
      have b3 := below_drewN b2
      clear hm st le hd hpart hx hsl NN
      go_wp2
      go_quiet (fail)
      have b4 := b3 nq
      clear ba b2 b3 i0 i1 i2 i3 hmax hmin b
      generalize (wr.alloc (.cells #[.slice A1 n1 c1, .slice A3 n3 c3, .int .i64 x.s, .int .i64 x.f] 48)).drewN nq = w4 at b4 ⊢
      by_cases hq : 512 < q
      · have hz2 : z = 4 := by rw [← hz, if_pos hq]
        have hc : decide (512 < (q : Int)) = true := decide_eq_true (by omega)
        rw [hc] at CH
        subst hz2
        clear hz hq hc
        go_wp2_with (first
          | (go_at_call 33; ((with_reducible refine (VD _).mono ?_); rintro en wx ⟨rfl, rfl⟩))
          | (go_at_call 33; ((with_reducible refine (VT _).mono ?_); rintro en wx ⟨rfl, rfl⟩))
          | (go_at_call 34; refine (TG _).mono ?_; rintro en wx ⟨rfl, rfl⟩)
          | (go_at_call 35; refine (CH _).mono ?_; rintro en wx ⟨rfl, rfl⟩))
        go_roundw
        case rel => exact ⟨i + 1, N + (2 + u + d + vt + 4), by omega, by go_num, congrArg (Value.int .i64) (by omega), hideIt (by rw [HN.out, ST.out]; omega), Nb2, b4⟩
        case measure => simp [intOf]; omega
      · have hz2 : q = z := by rw [← hz, if_neg hq]
        have hc : decide (512 < (q : Int)) = false := decide_eq_false (by omega)
        rw [hc] at CH
        subst hz2
        clear hz hq hc
        go_wp2_with (first
          | (go_at_call 33; ((with_reducible refine (VD _).mono ?_); rintro en wx ⟨rfl, rfl⟩))
          | (go_at_call 33; ((with_reducible refine (VT _).mono ?_); rintro en wx ⟨rfl, rfl⟩))
          | (go_at_call 34; refine (TG _).mono ?_; rintro en wx ⟨rfl, rfl⟩)
          | (go_at_call 35; refine (CH _).mono ?_; rintro en wx ⟨rfl, rfl⟩))
        go_roundw
        case rel => exact ⟨i + 1, N + (2 + u + d + vt + q), by omega, by go_num, congrArg (Value.int .i64) (by omega), hideIt (by rw [HN.out, ST.out]; omega), Nb2, b4⟩
        case measure => simp [intOf]; omega
    · obtain rfl : n = i := by omega
      have et : l.take n = l := List.take_of_length_le (by rw [HL.out]; exact Nat.le_refl _)
      rw [et, HS.out] at HN
      obtain rfl := HN.out
      go_wp2
      go_ret
      exact ⟨rfl, b⟩
end Go.Proofs.Ytieoleiokjoccaa
