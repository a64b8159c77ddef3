/- The walk of the law CrcLinear. -/
import Derived.Test.YtjfecechagoepaaDoorCrcV
import Derived.Deep.QuietTactic
import Derived.BigQuiet
import Derived.BigRegion
import Derived.WalkLawsBesides
import Derived.Deep.Cut
namespace Go.Proofs.YtjfecechagoepaaDoor
open Go.RowKit

/-! ### the plain law -/
def xor3 (xs ys zs : List UInt8) : List UInt8 := List.zipWith (· ^^^ ·) (List.zipWith (· ^^^ ·) xs ys) zs
theorem xor3_length (xs ys zs : List UInt8) (n : Nat) (hx : xs.length = n) (hy : ys.length = n) (hz : zs.length = n) : (xor3 xs ys zs).length = n := by
  unfold xor3; simp [hx, hy, hz]
theorem xor3_sum (xs ys zs : List UInt8) (n : Nat) (hx : xs.length = n) (hy : ys.length = n) (hz : zs.length = n) :
    Crc.sum (xor3 xs ys zs) = Crc.sum xs ^^^ Crc.sum ys ^^^ Crc.sum zs := by
  show ~~~ Crc.reg (~~~ 0#32) (xor3 xs ys zs) = ~~~ Crc.reg (~~~ 0#32) xs ^^^ ~~~ Crc.reg (~~~ 0#32) ys ^^^ ~~~ Crc.reg (~~~ 0#32) zs
  have e : (~~~ 0#32) = ((~~~ 0#32) ^^^ (~~~ 0#32)) ^^^ (~~~ 0#32) := by decide
  have h : Crc.reg (~~~ 0#32) (xor3 xs ys zs) = Crc.reg (~~~ 0#32) xs ^^^ Crc.reg (~~~ 0#32) ys ^^^ Crc.reg (~~~ 0#32) zs := by
    conv => lhs; rw [e]
    unfold xor3
    rw [Crc.reg_xor _ _ (by simp [hx, hy, hz]), Crc.reg_xor _ _ (by rw [hx, hy])]
  rw [h]
  generalize Crc.reg (~~~ 0#32) xs = a
  generalize Crc.reg (~~~ 0#32) ys = b
  generalize Crc.reg (~~~ 0#32) zs = c
  apply BitVec.eq_of_getLsbD_eq
  intro i hi
  simp [hi]
theorem xor3_get (xs ys zs : List UInt8) (k : Nat) (hx : k < xs.length) (hy : k < ys.length) (hz : k < zs.length) (h : k < (xor3 xs ys zs).length) : (xor3 xs ys zs)[k] = xs[k] ^^^ ys[k] ^^^ zs[k] := by
  have e : ∀ (l m : List UInt8) (h1 : k < l.length) (h2 : k < m.length) (h3 : k < (List.zipWith (· ^^^ ·) l m).length), (List.zipWith (· ^^^ ·) l m)[k] = l[k] ^^^ m[k] := fun l m h1 h2 h3 => List.getElem_zipWith
  exact (e _ _ (by simp; omega) hz h).trans (by rw [e _ _ hx hy])
theorem grow_set (T : List UInt8) (k : Nat) (h : k < T.length) : (T.take k ++ zeros (T.length - k)).set k T[k] = T.take (k + 1) ++ zeros (T.length - (k + 1)) := by
  have e : T.length - k = (T.length - (k + 1)) + 1 := by omega
  have hl : (T.take k).length = k := by rw [List.length_take]; omega
  rw [e, zeros, List.replicate_succ, List.set_append_right _ _ (by omega), hl, Nat.sub_self, List.set_cons_zero, ← List.take_append_getElem h, List.append_assoc]
  rfl
theorem grow_set' (T : List UInt8) (n k : Nat) (lT : T.length = n) (h : k < n) (b : UInt8) (hb : T[k]'(by omega) = b) : (T.take k ++ zeros (n - k)).set k b = T.take (k + 1) ++ zeros (n - (k + 1)) := by
  subst lT hb
  exact grow_set T k h
theorem drewB {w : World} {A : Option Addr} {n c : Nat} {xs : List UInt8} (h : RB w A n c xs) (m : Nat) : RB (w.drewN m) A n c xs := h.below (below_drewN (Below.refl _ _) m)
theorem drewT {w : World} (h : Tab w) (m : Nat) : Tab (w.drewN m) := h.below (below_drewN (Below.refl w.heap.size w) m)
theorem Sum_quiet (A : Option Addr) (n c : Nat) (xs : List UInt8) (w : World) (m : Nat) (hx : RB w A n c xs) (hb : n ≤ 140737488351232) (hg : Tab w) :
    Calls Tryd.prog 15 #[.slice A n c] (w.drewN m) fun e w' => e = .returned (.int .u32 (n32 (Crc.sum xs))) ∧ w' = w.drewN m :=
  (crcSum_calls A n c xs _ (drewB hx m) hb (drewT hg m)).mono fun _ _ ⟨h1, h2⟩ => ⟨h1, h2.symm⟩

attribute [local go_sem] bits_xor
set_option maxRecDepth 100000 in
set_option maxHeartbeats 2000000 in
theorem CrcLinear_walk (A0 : Option Addr) (n0 c0 : Nat) (xs : List UInt8) (A1 : Option Addr) (n1 c1 : Nat) (ys : List UInt8) (A2 : Option Addr) (n2 c2 : Nat) (zs : List UInt8) (w : World)
    (hx : RB w A0 n0 c0 xs) (_hb0 : n0 ≤ 140737488351232) (hy : RB w A1 n1 c1 ys) (_hb1 : n1 ≤ 140737488351232) (hz : RB w A2 n2 c2 zs) (_hb2 : n2 ≤ 140737488351232) (hg : Tab w) :
    Calls Tryd.prog 12 #[.slice A0 n0 c0, .slice A1 n1 c1, .slice A2 n2 c2] w fun e w' => e = .returned (.bool true) ∧ Below w.heap.size w w' := by
  obtain ⟨n, hn⟩ : ∃ n : Nat, min (min n0 n1) n2 = n := ⟨_, rfl⟩
  have HN := hideIt (show (if (n2 : Int) < (if n1 < n0 then (n1 : Int) else (n0 : Int)) then (n2 : Int) else (if n1 < n0 then (n1 : Int) else (n0 : Int))) = (n : Int) by omega)
  have hn0 : n ≤ n0 := by omega
  have hn1 : n ≤ n1 := by omega
  have hn2 : n ≤ n2 := by omega
  clear hn
  by_cases hbig : 65536 < n
  · have hbig' : (65536 : Int) < n := by omega
    go_enter Tryd.func12, Tryd.ntmps12
    go_upto_region 3 with (go_at_call 13; refine (first_calls _ hg).mono ?_; rintro e w1 ⟨rfl, b1⟩)
    rw [HN.out]
    go_wp2
    go_ret
    exact ⟨rfl, b1⟩
  have hsmall : (n : Int) ≤ 65536 := by omega
  go_enter Tryd.func12, Tryd.ntmps12
  go_upto_region 3 with (go_at_call 13; refine (first_calls _ hg).mono ?_; rintro e w1 ⟨rfl, b1⟩)
  rw [HN.out]
  clear HN
  go_wp2_with (at_make; refine wpB_full rfl _ _ rfl _ _ _ _ n rfl rfl rfl rfl (by omega) ?_; intro g2 w2 s2 o2 k2; have b2 := b1.grown k2 b1.size (by simp))
  have sg : w.heap.size ≤ g2 := Nat.le_trans b1.size s2
  obtain ⟨T, hT⟩ : ∃ l, xor3 (xs.take n) (ys.take n) (zs.take n) = l := ⟨_, rfl⟩
  have lx : (xs.take n).length = n := by rw [List.length_take, hx.len]; omega
  have ly : (ys.take n).length = n := by rw [List.length_take, hy.len]; omega
  have lz : (zs.take n).length = n := by rw [List.length_take, hz.len]; omega
  have lT : T.length = n := by rw [← hT]; exact xor3_length _ _ _ _ lx ly lz
  go_loopw [10] (fun kk wr => ∃ (k : Nat), k ≤ n ∧ kk = .int .i64 k ∧ OB wr g2 n n (T.take k ++ zeros (n - k)) ∧ Below w.heap.size w wr)
    (fun kk _ => n - (intOf kk).toNat)
  case atStart => exact ⟨0, by omega, rfl, by simpa using o2, b2⟩
  case round =>
    obtain ⟨k, hk, rfl, oy, by_⟩ := hrel
    by_cases hlt : k < n
    · obtain ⟨ad0, rfl, ca0⟩ := (hx.below by_).addr (by rw [hx.len]; omega)
      obtain ⟨ad1, rfl, ca1⟩ := (hy.below by_).addr (by rw [hy.len]; omega)
      obtain ⟨ad2, rfl, ca2⟩ := (hz.below by_).addr (by rw [hz.len]; omega)
      have kx : k < xs.length := by rw [hx.len]; omega
      have ky : k < ys.length := by rw [hy.len]; omega
      have kz : k < zs.length := by rw [hz.len]; omega
      have ha := ca0 k kx
      have hb := ca1 k ky
      have hc := ca2 k kz
      have hget : T[k]'(by omega) = xs[k] ^^^ ys[k] ^^^ zs[k] := by
        subst hT
        rw [xor3_get _ _ _ k (by omega) (by omega) (by omega)]
        simp only [List.getElem_take]
      have hst := grow_set' T n k lT hlt _ hget
      generalize xs[k] = xk at ha hst hget
      generalize ys[k] = yk at hb hst hget
      generalize zs[k] = zk at hc hst hget
      have hset := (oy.same (Sm.drew wr g2)).set k (xk ^^^ yk ^^^ zk)
      rw [hst] at hset
      have hv2 := bits_xor8 (xk ^^^ yk) zk
      have hv1 := bits_xor8 xk yk
      generalize ((xk ^^^ yk ^^^ zk).toNat : Int) = v2 at hset hv2
      generalize ((xk ^^^ yk).toNat : Int) = v1 at hv1 hv2
      generalize (xk.toNat : Int) = vx at ha hv1
      generalize (yk.toNat : Int) = vy at hb hv1
      generalize (zk.toNat : Int) = vz at hc hv2
      have hce := oy.cell k (by rw [oy.len]; exact hlt)
      generalize ((List.take k T ++ zeros (n - k))[k]'(by rw [oy.len]; exact hlt)) = ve at hce
      generalize (ve.toNat : Int) = vf at hce
      have fr := oy.free k
      have ki : (k : Int) < (n : Int) := by omega
      have ki0 : (k : Int) < (n0 : Int) := by omega
      have ki1 : (k : Int) < (n1 : Int) := by omega
      have ki2 : (k : Int) < (n2 : Int) := by omega
      clear ca0 ca1 ca2 hst hget lx ly lz
      go_wp2
      go_region
      all_goals go_wp2
      all_goals go_roundw
      all_goals first
        | exact ⟨k + 1, by omega, by go_num, hset, by_.drew.setCell (by omega) _⟩
        | (simp [intOf]; omega)
    · obtain rfl : k = n := by omega
      have oT : OB wr g2 k k T := by
        have e : T.take k ++ zeros (k - k) = T := by rw [← lT, List.take_length, Nat.sub_self]; exact List.append_nil T
        rwa [e] at oy
      have q0 := oT.read
      have q1 := (hx.below by_).take k hn0
      have q2 := (hy.below by_).take k hn1
      have q3 := (hz.below by_).take k hn2
      have qt := hg.below by_
      have law := xor3_sum _ _ _ k lx ly lz
      rw [hT] at law
      have law' : (n32 (Crc.sum T) == n32 (Crc.sum (xs.take k) ^^^ Crc.sum (ys.take k) ^^^ Crc.sum (zs.take k))) = true := by rw [law, beq_self_eq_true]
      have m0 : k ≤ c0 := Nat.le_trans hn0 (RC.le hx)
      have m1 : k ≤ c1 := Nat.le_trans hn1 (RC.le hy)
      have m2 : k ≤ c2 := Nat.le_trans hn2 (RC.le hz)
      go_wp2
      go_quiet (first
        | (go_at_call 15; exact Calls.quiet_of_same (Sum_quiet _ _ _ _ _ _ q0 (by omega) qt))
        | (go_at_call 15; exact Calls.quiet_of_same (Sum_quiet _ _ _ _ _ _ q1 (by omega) qt))
        | (go_at_call 15; exact Calls.quiet_of_same (Sum_quiet _ _ _ _ _ _ q2 (by omega) qt))
        | (go_at_call 15; exact Calls.quiet_of_same (Sum_quiet _ _ _ _ _ _ q3 (by omega) qt)))
      go_wp2
      go_ret
      exact ⟨rfl, below_drewN by_ _⟩
end Go.Proofs.YtjfecechagoepaaDoor
