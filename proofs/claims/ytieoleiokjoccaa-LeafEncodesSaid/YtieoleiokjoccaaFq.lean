/- coppiceref: SameItem, SameItems, Item, Items. -/
import Derived.Test.YtieoleiokjoccaaFb
import Derived.Test.YtieoleiokjoccaaSm
import Derived.Test.YtieoleiokjoccaaFh
namespace Go.Proofs.Ytieoleiokjoccaa
open Go.RowKit

theorem It.eq_iff (x y : It) : x = y ↔ (x.k = y.k ∧ x.v = y.v ∧ x.s = y.s ∧ x.f = y.f) := by
  cases x; cases y; simp
set_option maxRecDepth 100000 in
set_option maxHeartbeats 2000000 in
theorem SameItem_calls (A1 A2 B1 B2 : Option Addr) (n1 c1 n2 c2 m1 d1 m2 d2 : Nat) (x y : It) (w : World) (hk : RB w A1 n1 c1 x.k) (hv : RB w A2 n2 c2 x.v) (hk' : RB w B1 m1 d1 y.k) (hv' : RB w B2 m2 d2 y.v) (r : Bool) (hr : r = true ↔ x = y) :
    Calls Try.prog 53 #[.agg #[.slice A1 n1 c1, .slice A2 n2 c2, .int .i64 x.s, .int .i64 x.f], .agg #[.slice B1 m1 d1, .slice B2 m2 d2, .int .i64 y.s, .int .i64 y.f]] w fun e w' => e = .returned (.bool r) ∧ Below w.heap.size w w' := by
  obtain ⟨b1, hb1⟩ : ∃ b, decide (x.k = y.k) = b := ⟨_, rfl⟩
  obtain ⟨b2, hb2⟩ : ∃ b, decide (x.v = y.v) = b := ⟨_, rfl⟩
  obtain ⟨b3, hb3⟩ : ∃ b, (x.s == y.s) = b := ⟨_, rfl⟩
  obtain ⟨b4, hb4⟩ : ∃ b, (x.f == y.f) = b := ⟨_, rfl⟩
  have hr2 : r = (b1 && (b2 && (b3 && b4))) := by
    rw [Bool.eq_iff_iff, hr, It.eq_iff, ← hb1, ← hb2, ← hb3, ← hb4]
    simp
  have ba := below1 w (.cells #[.slice A1 n1 c1, .slice A2 n2 c2, .int .i64 x.s, .int .i64 x.f] 48)
  have bb := below1 (w.alloc (.cells #[.slice A1 n1 c1, .slice A2 n2 c2, .int .i64 x.s, .int .i64 x.f] 48)) (.cells #[.slice B1 m1 d1, .slice B2 m2 d2, .int .i64 y.s, .int .i64 y.f] 48)
  have S1 := SameBytes_calls _ _ _ _ _ _ _ _ _ ((hk.below ba).below bb) ((hk'.below ba).below bb) b1 hb1.symm
  have S2 := SameBytes_calls _ _ _ _ _ _ _ _ _ ((hv.below ba).below bb) ((hv'.below ba).below bb) b2 hb2.symm
  have b0 := blw_step ba bb
  clear hb1 hb2 hr hk hv hk' hv' ba bb
  cases b1
  · obtain rfl : r = false := hr2
    cases b2
    all_goals
      go_enter Try.func53, Try.ntmps53
      go_wp2_with (first
        | (go_at_call 27; ((with_reducible refine S1.mono ?_); rintro en wx ⟨rfl, rfl⟩))
        | (go_at_call 27; ((with_reducible refine S2.mono ?_); rintro en wx ⟨rfl, rfl⟩)))
      go_ret
      exact ⟨rfl, b0⟩
  · cases b2
    · obtain rfl : r = false := hr2
      go_enter Try.func53, Try.ntmps53
      go_wp2_with (first
        | (go_at_call 27; ((with_reducible refine S1.mono ?_); rintro en wx ⟨rfl, rfl⟩))
        | (go_at_call 27; ((with_reducible refine S2.mono ?_); rintro en wx ⟨rfl, rfl⟩)))
      go_ret
      exact ⟨rfl, b0⟩
    · cases b3
      · obtain rfl : r = false := hr2
        go_enter Try.func53, Try.ntmps53
        go_wp2_with (first
          | (go_at_call 27; ((with_reducible refine S1.mono ?_); rintro en wx ⟨rfl, rfl⟩))
          | (go_at_call 27; ((with_reducible refine S2.mono ?_); rintro en wx ⟨rfl, rfl⟩)))
        go_ret
        exact ⟨rfl, b0⟩
      · cases b4
        · obtain rfl : r = false := hr2
          go_enter Try.func53, Try.ntmps53
          go_wp2_with (first
            | (go_at_call 27; ((with_reducible refine S1.mono ?_); rintro en wx ⟨rfl, rfl⟩))
            | (go_at_call 27; ((with_reducible refine S2.mono ?_); rintro en wx ⟨rfl, rfl⟩)))
          go_ret
          exact ⟨rfl, b0⟩
        · obtain rfl : r = true := hr2
          go_enter Try.func53, Try.ntmps53
          go_wp2_with (first
            | (go_at_call 27; ((with_reducible refine S1.mono ?_); rintro en wx ⟨rfl, rfl⟩))
            | (go_at_call 27; ((with_reducible refine S2.mono ?_); rintro en wx ⟨rfl, rfl⟩)))
          go_ret
          exact ⟨rfl, b0⟩

set_option maxRecDepth 100000 in
set_option maxHeartbeats 4000000 in
theorem SameItems_calls (A A' : Option Addr) (n c n' c' : Nat) (vs vs' : List Value) (l l' : List It) (w : World) (h : RT w A n c vs l) (h' : RT w A' n' c' vs' l') (r : Bool) (hr : r = true ↔ l = l') :
    Calls Try.prog 26 #[.slice A n c, .slice A' n' c'] w fun e w' => e = .returned (.bool r) ∧ Below w.heap.size w w' := by
  have HL := hideIt h.len
  have HL' := hideIt h'.len
  have mx := h.max
  by_cases hn : n = n'
  · subst hn
    have HR := hideIt hr
    clear hr
    go_enter Try.func26, Try.ntmps26
    go_wp2
    go_loopw [5] (fun ii wr => ∃ i, i ≤ n ∧ ii = .int .i64 (i : Int) ∧ Hid (l.take i = l'.take i) ∧ Below w.heap.size w wr)
      (fun ii _ => n - (intOf ii).toNat)
    case atStart => exact ⟨0, by omega, rfl, hideIt rfl, Below.refl _ _⟩
    case round =>
      obtain ⟨i, hi, rfl, HT, b⟩ := hrel
      by_cases hlt : i < n
      · have bd : Below w.heap.size w wr.drew := b.drew
        obtain ⟨ad, ⟨A1, n1, c1⟩, ⟨A2, n2, c2⟩, x, rfl, hx, it, rk, rv⟩ := (h.below bd).row i hlt
        obtain ⟨ad', ⟨B1, m1, d1⟩, ⟨B2, m2, d2⟩, y, rfl, hy, it', rk', rv'⟩ := (h'.below bd).row i hlt
        simp only at rk rv rk' rv'
        have i1 : (i : Int) < (n : Int) := by omega
        obtain ⟨q, hq⟩ : ∃ q : Bool, q = true ↔ x = y := ⟨@decide (x = y) (Classical.propDecidable _), by simp⟩
        have SI := fun W e1 e2 e3 e4 => SameItem_calls A1 A2 B1 B2 n1 c1 n2 c2 m1 d1 m2 d2 x y W e1 e2 e3 e4 q hq
        have HQ := hideIt hq
        obtain ⟨y0, y1, y2, y3⟩ := it
        obtain ⟨z0, z1, z2, z3⟩ := it'
        simp only at y0 y1 z0 z1
        have IT : ItAt wr.drew (ad.add (i * 4)) (A1, n1, c1) (A2, n2, c2) x.s x.f := ⟨y0, y1, y2, y3⟩
        have IT' : ItAt wr.drew (ad'.add (i * 4)) (B1, m1, d1) (B2, m2, d2) y.s y.f := ⟨z0, z1, z2, z3⟩
        have HX := hideIt hx
        have HY := hideIt hy
        clear hq hx hy b
        go_wp2
        go_region_held3 (fun w' => (w'.cell? (ad.add (i * 4)) = some (.slice A1 n1 c1) ∧ w'.cell? ⟨(ad.add (i * 4)).block, (ad.add (i * 4)).off + 1, none⟩ = some (.slice A2 n2 c2) ∧ w'.cell? ⟨(ad.add (i * 4)).block, (ad.add (i * 4)).off + 2, none⟩ = some (.int .i64 x.s) ∧ w'.cell? ⟨(ad.add (i * 4)).block, (ad.add (i * 4)).off + 3, none⟩ = some (.int .i64 x.f)) ∧ (w'.cell? (ad'.add (i * 4)) = some (.slice B1 m1 d1) ∧ w'.cell? ⟨(ad'.add (i * 4)).block, (ad'.add (i * 4)).off + 1, none⟩ = some (.slice B2 m2 d2) ∧ w'.cell? ⟨(ad'.add (i * 4)).block, (ad'.add (i * 4)).off + 2, none⟩ = some (.int .i64 y.s) ∧ w'.cell? ⟨(ad'.add (i * 4)).block, (ad'.add (i * 4)).off + 3, none⟩ = some (.int .i64 y.f)))
          (first | exact ⟨⟨y0, y1, y2, y3⟩, ⟨z0, z1, z2, z3⟩⟩ | exact ⟨⟨k0, k1, k2, k3⟩, ⟨j0, j1, j2, j3⟩⟩ | go_keep)
          (first
            | (go_at_call 53; (with_reducible refine (SI _ rk rv rk' rv').mono ?_); rintro en w2 ⟨rfl, x2⟩; have b2 := blw_step bd x2; obtain ⟨k0, k1, k2, k3⟩ := IT.below x2; obtain ⟨j0, j1, j2, j3⟩ := IT'.below x2; simp only at k0 k1 j0 j1))
        clear IT IT' y0 y1 y2 y3 z0 z1 z2 z3 k0 k1 k2 k3 j0 j1 j2 j3 rk rv rk' rv' SI x2 bd
        cases q
        · have hne : l ≠ l' := ne_at HX.out HY.out (fun e => by have := HQ.out.2 e; cases this)
          have hf : r = false := by
            cases r with
            | false => rfl
            | true => exact absurd (HR.out.1 rfl) hne
          subst hf
          clear hne
          go_wp2
          go_ret
          exact ⟨rfl, b2⟩
        · have st := hideIt (take_eq_step HT.out HX.out HY.out (HQ.out.1 rfl))
          go_wp2
          go_roundw
          case rel => exact ⟨i + 1, by omega, by go_num, st, b2⟩
          case measure => simp [intOf]; omega
      · obtain rfl : n = i := by omega
        have ht : r = true := HR.out.2 (take_all_eq HT.out HL.out HL'.out)
        subst ht
        go_wp2
        go_ret
        exact ⟨rfl, b⟩
  · have hf : r = false := by
      cases r with
      | false => rfl
      | true => exact absurd (by rw [← HL.out, ← HL'.out, hr.1 rfl]) hn
    subst hf
    have e1 : ((n : Int) != (n' : Int)) = true := by rw [bne_iff_ne]; omega
    clear hn hr
    go_enter Try.func26, Try.ntmps26
    go_wp2
    go_ret
    exact ⟨rfl, Below.refl _ _⟩
end Go.Proofs.Ytieoleiokjoccaa
