/- Rows of slices of bytes of the call's own (OM); chain.Pieces, coppiceref6.Pieces, SameByteLists, SameInts. -/
import Derived.Test.YthahedpkefojdaaNk
import Derived.Test.YthahedpkefojdaaRM
namespace Go.Proofs.Ythahedpkefojdaa
open Go.RowKit

def sv (p : Option Addr × Nat × Nat) : Value := .slice p.1 p.2.1 p.2.2
theorem sv_one (l : List (Option Addr × Nat × Nat)) : ∀ u ∈ l.map sv, u.oneCell' = true := by
  intro u hu
  obtain ⟨_, _, rfl⟩ := List.mem_map.1 hu
  rfl
def Before (p q : Option Addr × Nat × Nat) : Prop := ∀ a b, p.1 = some a → q.1 = some b → a.block < b.block
/-- A row of slices of bytes; row and slices lie in blocks of the call's own, each slice in one of its own. -/
structure OM (w : World) (base : Nat) (A : Option Addr) (n c : Nat) (ps : List (Option Addr × Nat × Nat)) (xss : List (List UInt8)) : Prop where
  row : GC w base 22 1 A n c (ps.map sv)
  len : ps.length = xss.length
  each : ∀ (j : Nat) (p : Option Addr × Nat × Nat) (xs : List UInt8), ps[j]? = some p → xss[j]? = some xs → GB w base p.1 p.2.1 p.2.2 xs
  inc : ps.Pairwise Before
theorem OM.nil (w : World) (base : Nat) : OM w base none 0 0 [] [] := ⟨GC.nil _ _ _ _, rfl, fun j p xs h => by simp at h, List.Pairwise.nil⟩
theorem OM.below {w w' : World} {base n c : Nat} {A : Option Addr} {ps : List (Option Addr × Nat × Nat)} {xss : List (List UInt8)} (h : OM w base A n c ps xss) (hb : Below w.heap.size w w') : OM w' base A n c ps xss :=
  ⟨h.row.below hb, h.len, fun j p xs h1 h2 => (h.each j p xs h1 h2).below hb, h.inc⟩
theorem OM.n {w : World} {base n c : Nat} {A : Option Addr} {ps : List (Option Addr × Nat × Nat)} {xss : List (List UInt8)} (h : OM w base A n c ps xss) : ps.length = n := by
  have := h.row.1; simpa using this
theorem OM.read {w : World} {base n c : Nat} {A : Option Addr} {ps : List (Option Addr × Nat × Nat)} {xss : List (List UInt8)} (h : OM w base A n c ps xss) : RM w A n c (ps.map sv) xss :=
  ⟨GC.read h.row, by rw [← h.len, h.n], fun j xs hj => by
    have hl : j < ps.length := by rw [h.len]; exact (List.getElem?_eq_some_iff.1 hj).1
    have hp : ps[j]? = some ps[j] := List.getElem?_eq_getElem hl
    exact ⟨ps[j].1, ps[j].2.1, ps[j].2.2, by rw [List.getElem?_map, hp]; rfl, (h.each j _ xs hp hj).read⟩⟩
theorem GB.lt {w : World} {base n c : Nat} {A : Option Addr} {xs : List UInt8} (h : GB w base A n c xs) (a : Addr) (e : A = some a) : a.block < w.heap.size ∧ base ≤ a.block := by
  rcases GC.oc h with ⟨rfl, _⟩ | ⟨g, rfl, h2, o⟩
  · cases e
  · cases e; exact ⟨o.lt, h2⟩
theorem OM.lt {w : World} {base n c : Nat} {A : Option Addr} {ps : List (Option Addr × Nat × Nat)} {xss : List (List UInt8)} (h : OM w base A n c ps xss) : ∀ p ∈ ps, ∀ a, p.1 = some a → a.block < w.heap.size := by
  intro p hp a e
  obtain ⟨j, hj, rfl⟩ := List.getElem_of_mem hp
  have hx : xss[j]? = some (xss[j]'(by rw [← h.len]; exact hj)) := List.getElem?_eq_getElem _
  exact ((h.each j _ _ (List.getElem?_eq_getElem hj) hx).lt a e).1
theorem OM.lower {w : World} {base base' n c : Nat} {A : Option Addr} {ps : List (Option Addr × Nat × Nat)} {xss : List (List UInt8)} (h : OM w base A n c ps xss) (hb : base' ≤ base) : OM w base' A n c ps xss :=
  ⟨GC.lower h.row hb, h.len, fun j p xs h1 h2 => GC.lower (h.each j p xs h1 h2) hb, h.inc⟩
theorem OM.push {w w' : World} {base n c lo n' c' g c2 : Nat} {A A' : Option Addr} {ps : List (Option Addr × Nat × Nat)} {xss : List (List UInt8)} {xs : List UInt8} (h : OM w base A n c ps xss) (hp : GB w lo A' n' c' xs)
    (hlo : ∀ p ∈ ps, ∀ a, p.1 = some a → a.block < lo) (hb : base ≤ lo) (gx : w.grownBy w' (A.map (·.block))) (o : OC w' 22 1 g (n + 1) c2 (ps.map sv ++ [.slice A' n' c'])) (hg : base ≤ g) :
    OM w' base (some ⟨g, 0, none⟩) (n + 1) c2 (ps ++ [(A', n', c')]) (xss ++ [xs]) := by
  refine ⟨by rw [List.map_append]; exact GC.of o hg, by rw [List.length_append, List.length_append, h.len]; rfl, ?_, ?_⟩
  · intro j p ys h1 h2
    by_cases hj : j < ps.length
    · rw [List.getElem?_append_left hj] at h1
      rw [List.getElem?_append_left (by rw [← h.len]; exact hj)] at h2
      exact GC.apart (h.each j p ys h1 h2) h.row gx (by decide)
    · rw [List.getElem?_append_right (by omega)] at h1
      rw [List.getElem?_append_right (by rw [← h.len]; omega), ← h.len] at h2
      have hj0 : j - ps.length = 0 := by
        have := (List.getElem?_eq_some_iff.1 h1).1
        simp at this; omega
      rw [hj0] at h1 h2
      simp at h1 h2
      subst h1 h2
      exact GC.apart (GC.lower hp hb) h.row gx (by decide)
  · rw [List.pairwise_append]
    refine ⟨h.inc, List.pairwise_singleton _ _, fun p hpm q hq => ?_⟩
    simp at hq
    subst hq
    intro a b ea eb
    have h1 := hlo p hpm a ea
    have h2 := (hp.lt b eb).2
    omega

theorem OC.tyy {w : World} {e e' sz sz' g n n' c c' : Nat} {cs cs' : List Value} (h : OC w e sz g n c cs) (k : OC w e' sz' g n' c' cs') : e = e' := by
  obtain ⟨_, cur, q1, _⟩ := OC.block h
  obtain ⟨_, cur', q2, _⟩ := OC.block k
  rw [q1] at q2
  injection q2 with q2
  injection q2
theorem OM.under {w w' : World} {base n c g : Nat} {A : Option Addr} {ps : List (Option Addr × Nat × Nat)} {xss : List (List UInt8)} {e sz m k : Nat} {cs : List Value} (h : OM w base A n c ps xss) (gx : w.grownBy w' (some g)) (hlo : ∀ p ∈ ps, ∀ a, p.1 = some a → a.block ≠ g) (o : OC w e sz g m k cs) (ne : 22 ≠ e) : OM w' base A n c ps xss := by
  refine ⟨?_, h.len, ?_, h.inc⟩
  · rcases h.row.oc with ⟨rfl, rfl, rfl, hcs⟩ | ⟨g2, rfl, hb, o2⟩
    · rw [hcs]; exact GC.nil _ _ _ _
    · refine GC.of (o2.same (Sm.of_grown gx o2.lt ?_)) hb
      simp only [ne_eq, Option.some.injEq]
      rintro rfl
      exact ne (OC.tyy o2 o)
  · intro j p xs h1 h2
    have hp := h.each j p xs h1 h2
    have hm : p ∈ ps := List.mem_of_getElem? h1
    refine GC.same hp fun a ea => ?_
    have := (hp.lt a ea).1
    exact Sm.of_grown gx this (by simpa using hlo p hm a ea)

theorem info_bs : (Try.prog.info? 22).map (fun i => (i.zero, i.size, i.bytes)) = some (some (.slice none 0 0), 1, 24) := by kernel_rfl
theorem wpM_app {w : World} {ops : Array Oper} {rest : List Oper} {o : Oper} {a : Act} {Q : Exit → Act → World → Prop} (hgd : o.guard = none) (s x : Operand) (ho : o.op = .call { callee := .builtin .append, args := #[s, x], argTypes := #[37, 37] })
    (base : Nat) (A : Option Addr) (n c : Nat) (l : List Value) (hs : a.eval s = .slice A n c) (hown : GC w base 22 1 A n c l)
    (ad : Addr) (p : Option Addr × Nat × Nat) (hx : a.eval x = .slice (some ad) 1 1) (hr : RC w 1 (some ad) 1 1 [sv p]) (hb : n + 1 ≤ 1000000) (hbase : base ≤ w.heap.size)
    (h : ∀ g' c' w', base ≤ g' → OC w' 22 1 g' (n + 1) c' (l ++ [sv p]) → w.grownBy w' (A.map (·.block)) → wpList Try.prog ops Q rest (a.put o.dst (.slice (some ⟨g', 0, none⟩) (n + 1) c')) w') :
    wpList Try.prog ops Q (o :: rest) a w := by
  obtain ⟨i0, hi, hz0, hz1, hz2⟩ := info_parts info_bs
  exact wpG_app hgd s x 37 ho base 22 i0 (.slice none 0 0) 1 24 Try.underlying37 hi hz0 hz1 hz2 rfl (by decide) A n c l hs hown ad 1 1 [sv p] hx hr (sv_one [p]) (by decide) (by omega) (by rw [maxLen_is]; omega) hbase h
theorem sv_cell (w : World) (p : Option Addr × Nat × Nat) : RC (w.alloc (.cells #[.slice p.1 p.2.1 p.2.2] 22)) 1 (some ⟨w.heap.size, 0, none⟩) 1 1 [sv p] :=
  OC.read (e := 22) (OC.mk rfl _ (heap_alloc_new w _) (Nat.le_refl _) (by rw [maxLen_is]; omega) rfl rfl)
theorem min_at (a : Int) (b n : Nat) (h : (n : Int) = if a ≤ (b : Int) then a else (b : Int)) (ts : Array TypeId) (t : TypeId) (w : World) : (Builtin.min_ ts t #[.int .i64 a, .int .i64 (b : Int)]).run Try.prog w = .ok (.int .i64 (n : Int)) w := by
  rw [run_min_int2]; split <;> (congr 2; split at h <;> omega)

structure PieceAt (v : List UInt8) (n i F T L : Nat) : Prop where
  f : (i : Int) * 4085 = (F : Int)
  t : (T : Int) = if (F : Int) + 4085 ≤ (n : Int) then (F : Int) + 4085 else (n : Int)
  l : (T : Int) - (F : Int) = (L : Int)
  l' : T - F = L
  ne : F < T
  le : T ≤ n
  piece : (v.drop F).take L = (v.drop (4085 * i)).take 4085
  l1 : 1 ≤ L ∧ L ≤ 4085
theorem piece_at (v : List UInt8) (n i : Nat) (hn : v.length = n) (h : i < pagesS (n : Int)) : ∃ F T L, PieceAt v n i F T L := by
  have hp := pages_last n i h
  refine ⟨4085 * i, min (4085 * i + 4085) n, min (4085 * i + 4085) n - 4085 * i, by omega, by split <;> omega, by omega, rfl, by omega, by omega, ?_, by omega⟩
  by_cases hc : 4085 * i + 4085 ≤ n
  · rw [Nat.min_eq_left hc, Nat.add_sub_cancel_left]
  · rw [Nat.min_eq_right (by omega), List.take_of_length_le (by rw [List.length_drop]; omega), List.take_of_length_le (by rw [List.length_drop]; omega)]

def piecesTo (v : List UInt8) (k : Nat) : List (List UInt8) := (List.range k).map fun i => (v.drop (4085 * i)).take 4085
theorem piecesTo_succ (v : List UInt8) (k : Nat) : piecesTo v (k + 1) = piecesTo v k ++ [(v.drop (4085 * k)).take 4085] := by simp [piecesTo, List.range_succ]
def ManyB (w : World) (xss : List (List UInt8)) (e : Ending) (w' : World) : Prop := ∃ A m c ps, e = .returned (.slice A m c) ∧ OM w' w.heap.size A m c ps xss ∧ Below w.heap.size w w'

set_option maxRecDepth 100000 in
set_option maxHeartbeats 4000000 in
theorem Pieces_calls (A : Option Addr) (n c : Nat) (v : List UInt8) (w : World) (h : RB w A n c v) :
    Calls Try.prog 18 #[.slice A n c] w (ManyB w (pieces v)) := by
  have HL := hideIt h.len
  have mx : n ≤ 9223372036854775807 := by have h1 := RC.le h; have h2 := RC.mx h; rw [maxLen_is] at h2; omega
  have hcap := RC.le h
  have cmx : c ≤ 9223372036854775807 := by have h2 := RC.mx h; rw [maxLen_is] at h2; omega
  obtain ⟨K, hK⟩ : ∃ K, pagesS (n : Int) = K := ⟨_, rfl⟩
  have K65 : K ≤ 65 := by rw [← hK]; exact pages_le _
  have PC := fun W => Pages_calls (n : Int) W
  rw [hK] at PC
  have HK := hideIt hK
  have HP : Hid (pieces v = piecesTo v K) := hideIt (by unfold pieces piecesTo; rw [HL.out, hK])
  clear hK
  go_enter Try.func18, Try.ntmps18
  go_wp2_with (go_at_call 16; refine (PC _).mono ?_; rintro en wx ⟨rfl, rfl⟩)
  go_loopw [3, 11] (fun oo kk wr => ∃ (i c3 : Nat) (A3 : Option Addr) (ps : List (Option Addr × Nat × Nat)), i ≤ K ∧ kk = .int .i64 (i : Int) ∧ oo = .slice A3 i c3 ∧ OM wr w.heap.size A3 i c3 ps (piecesTo v i) ∧ Below w.heap.size w wr)
    (fun _ kk _ => K - (intOf kk).toNat)
  case atStart => exact ⟨0, 0, none, [], by omega, rfl, rfl, OM.nil _ _, Below.refl _ _⟩
  case round =>
    obtain ⟨i, c3, A3, ps, hi, rfl, rfl, om, bw⟩ := hrel
    by_cases hlt : i < K
    · obtain ⟨F, T, L, pa⟩ := piece_at v n i HL.out (by rw [HK.out]; exact hlt)
      have i1 : (i : Int) < (K : Int) := by omega
      have hf := pa.f
      have hmin := min_at ((F : Int) + 4085) n T pa.t
      have hl := pa.l
      have hl' := pa.l'
      have hne := pa.ne
      have hle := pa.le
      obtain ⟨l1, l2⟩ := pa.l1
      have hc7 : ¬ T = F := by omega
      have i2 : (F : Int) ≤ (T : Int) := by omega
      have i3 : (T : Int) ≤ (c : Int) := by omega
      have i4 : (T : Int) ≤ (n : Int) := by omega
      have PI := hideIt pa.piece
      obtain ⟨D, hD⟩ : ∃ D, (v.drop F).take L = D := ⟨_, rfl⟩
      have hvl : 0 < v.length := by rw [HL.out]; omega
      obtain ⟨ad, rfl, -⟩ := RB.addr h hvl
      have cut := h.cut (A' := some (ad.add F)) F T T (by omega) (by omega) (Nat.le_refl _) (by omega) (fun _ => rfl) (fun q => by cases q)
      rw [hl', hD] at cut
      have HD := hideIt hD
      have cutw := cut.below bw
      have bs := bw.size
      have dl := cut.len
      have cp := hideIt (copy_all L D dl)
      clear hD pa cut hne hle dl hvl
      go_upto_region 8 with (at_make; refine wpB_full rfl _ _ rfl _ _ _ _ L rfl rfl (by omega) (by omega) (by omega) ?_; intro g w2 s2 o2 k2)
      have bk := below_of_grown k2 (Nat.le_refl _) (by simp)
      have cut2 := RB.below cutw bk
      have om2 := om.below bk
      have b2 := blw_step bw bk
      have z2 := k2.size
      have hlo := om.lt
      have HLO := hideIt hlo
      clear bk cutw om k2 hlo
      go_upto_region 9 with (with_reducible refine wpB_copy rfl (.tmp 25) (.tmp 30) rfl _ _ _ rfl _ _ _ rfl g L L 0 _ _ o2 cut2 L (by simp) (fun _ => rfl) (by omega) ?_; intro w3 o3 k3)
      rw [cp.out] at o3
      have gl : wr.heap.size ≤ g := s2
      have b3 := blw_own b2 k3 b2.size (Nat.le_trans bs gl)
      have G3 : GB w3 wr.heap.size (some ⟨g, 0, none⟩) L L D := GB.of o3 gl
      have om3 : OM w3 w.heap.size A3 i c3 ps (piecesTo v i) := om2.under k3 (fun p hp a e => by have := HLO.out p hp a e; omega) o2 (by decide)
      have ba := below1 w3 (.cells #[.slice (some ⟨g, 0, none⟩) L L] 22)
      have om4 := om3.below ba
      have G4 := G3.below ba
      have b4 := blw_step b3 ba
      have R4 := sv_cell w3 (some ⟨g, 0, none⟩, L, L)
      clear om2 om3 G3 o3 k3 b2 b3 ba cut2 o2
      go_wp2_with (with_reducible refine wpM_app rfl (.tmp 32) (.tmp 34) rfl w.heap.size _ _ _ _ rfl om4.row _ (some ⟨g, 0, none⟩, L, L) rfl R4 (by omega) b4.size ?_; intro g5 c5 w5 q5 o5 k5)
      have om5 := om4.push G4 HLO.out bs k5 o5 q5
      rw [show piecesTo v i ++ [D] = piecesTo v (i + 1) by rw [piecesTo_succ, ← PI.out, HD.out]] at om5
      have b5 := GC.under om4.row b4 k5 b4.size
      go_roundw
      case rel => exact ⟨i + 1, c5, _, _, by omega, by go_num, rfl, om5, b5⟩
      case measure => simp [intOf]; omega
    · obtain rfl : K = i := by omega
      go_wp2
      go_ret
      exact ⟨_, _, _, ps, rfl, by rw [HP.out]; exact om, bw⟩

set_option maxRecDepth 100000 in
set_option maxHeartbeats 4000000 in
theorem refPieces_calls (A : Option Addr) (n c : Nat) (v : List UInt8) (w : World) (h : RB w A n c v) :
    Calls Try.prog 19 #[.slice A n c] w (ManyB w (pieces v)) := by
  have HL := hideIt h.len
  have mx : n ≤ 9223372036854775807 := by have h1 := RC.le h; have h2 := RC.mx h; rw [maxLen_is] at h2; omega
  have hcap := RC.le h
  have cmx : c ≤ 9223372036854775807 := by have h2 := RC.mx h; rw [maxLen_is] at h2; omega
  obtain ⟨K, hK⟩ : ∃ K, pagesS (n : Int) = K := ⟨_, rfl⟩
  have K65 : K ≤ 65 := by rw [← hK]; exact pages_le _
  have PC := fun W => refPages_calls (n : Int) W
  rw [hK] at PC
  have HK := hideIt hK
  have HP : Hid (pieces v = piecesTo v K) := hideIt (by unfold pieces piecesTo; rw [HL.out, hK])
  clear hK
  go_enter Try.func19, Try.ntmps19
  go_wp2_with (go_at_call 17; refine (PC _).mono ?_; rintro en wx ⟨rfl, rfl⟩)
  go_loopw [3, 5] (fun oo kk wr => ∃ (i c3 : Nat) (A3 : Option Addr) (ps : List (Option Addr × Nat × Nat)), i ≤ K ∧ kk = .int .i64 (i : Int) ∧ oo = .slice A3 i c3 ∧ OM wr w.heap.size A3 i c3 ps (piecesTo v i) ∧ Below w.heap.size w wr)
    (fun _ kk _ => K - (intOf kk).toNat)
  case atStart => exact ⟨0, 0, none, [], by omega, rfl, rfl, OM.nil _ _, Below.refl _ _⟩
  case round =>
    obtain ⟨i, c3, A3, ps, hi, rfl, rfl, om, bw⟩ := hrel
    by_cases hlt : i < K
    · obtain ⟨F, T, L, pa⟩ := piece_at v n i HL.out (by rw [HK.out]; exact hlt)
      have i1 : (i : Int) < (K : Int) := by omega
      have hf := pa.f
      have hmin := min_at ((F : Int) + 4085) n T pa.t
      have hl := pa.l
      have hl' := pa.l'
      have hne := pa.ne
      have hle := pa.le
      obtain ⟨l1, l2⟩ := pa.l1
      have hc7 : ¬ c = F := by omega
      have i2 : (F : Int) ≤ (T : Int) := by omega
      have i3 : (T : Int) ≤ (c : Int) := by omega
      have i4 : (T : Int) ≤ (n : Int) := by omega
      have i5 : (F : Int) ≤ (c : Int) := by omega
      have PI := hideIt pa.piece
      obtain ⟨D, hD⟩ : ∃ D, (v.drop F).take L = D := ⟨_, rfl⟩
      have hvl : 0 < v.length := by rw [HL.out]; omega
      obtain ⟨ad, rfl, -⟩ := RB.addr h hvl
      have cut := h.cut (A' := some (ad.add F)) F T c (by omega) (by omega) (by omega) (Nat.le_refl _) (fun _ => rfl) (fun q => by cases q)
      rw [hl', hD] at cut
      have HD := hideIt hD
      have cutw := cut.below bw
      have bs := bw.size
      have hlo := om.lt
      have HLO := hideIt hlo
      clear hD pa cut hne hle hvl hlo
      go_upto_region 9 with (go_at_call 34; refine (Bytes_calls _ _ _ _ _ cutw (by omega)).mono ?_; rintro en w3 ⟨g, cg, rfl, gl, o3, bk⟩)
      have b3 := blw_step bw bk
      have G3 : GB w3 wr.heap.size (some ⟨g, 0, none⟩) L cg D := GB.of o3 gl
      have om3 := om.below bk
      have ba := below1 w3 (.cells #[.slice (some ⟨g, 0, none⟩) L cg] 22)
      have om4 := om3.below ba
      have G4 := G3.below ba
      have b4 := blw_step b3 ba
      have R4 := sv_cell w3 (some ⟨g, 0, none⟩, L, cg)
      clear om om3 G3 o3 b3 ba bk cutw
      go_wp2_with (with_reducible refine wpM_app rfl (.tmp 29) (.tmp 31) rfl w.heap.size _ _ _ _ rfl om4.row _ (some ⟨g, 0, none⟩, L, cg) rfl R4 (by omega) b4.size ?_; intro g5 c5 w5 q5 o5 k5)
      have om5 := om4.push G4 HLO.out bs k5 o5 q5
      rw [show piecesTo v i ++ [D] = piecesTo v (i + 1) by rw [piecesTo_succ, ← PI.out, HD.out]] at om5
      have b5 := GC.under om4.row b4 k5 b4.size
      go_roundw
      case rel => exact ⟨i + 1, c5, _, _, by omega, by go_num, rfl, om5, b5⟩
      case measure => simp [intOf]; omega
    · obtain rfl : K = i := by omega
      go_wp2
      go_ret
      exact ⟨_, _, _, ps, rfl, by rw [HP.out]; exact om, bw⟩
end Go.Proofs.Ythahedpkefojdaa
