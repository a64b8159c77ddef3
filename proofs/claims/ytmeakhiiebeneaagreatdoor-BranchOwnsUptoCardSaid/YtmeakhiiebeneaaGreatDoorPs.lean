/- coppicelaw5: stayKids, lent. -/
import Derived.Test.YtmeakhiiebeneaaGreatDoorPk
import Derived.Test.YtmeakhiiebeneaaGreatDoorPe
namespace Go.Proofs.YtmeakhiiebeneaaGreatDoor
open Go.RowKit

set_option maxRecDepth 100000 in
set_option maxHeartbeats 1000000 in
theorem stayKids_calls (base : Nat) (A : Option Addr) (n c : Nat) (B : Option Addr) (d : Nat) (l : List (Int × Int)) (w : World) (h : LK w base A n c l) (k : RK w B n d l) :
    Calls Tryz.prog 54 #[.slice A n c, .slice B n d] w fun e w' => e = .returned (.bool true) ∧ ∃ j, w' = w.drewN j := by
  have hl := h.len
  have hr := h.read
  obtain ⟨g, rfl, hb, o⟩ := h
  have hc := o.le
  have i1 : (n : Int) + 1 ≤ (c : Int) := by omega
  have hx : (l ++ [((201 : Int), (202 : Int))])[n]? = some (201, 202) := by rw [List.getElem?_append_right (by omega), hl, Nat.sub_self]; rfl
  obtain ⟨c1, c2⟩ := RK.cells (OC.read o) n 201 202 hx
  have n2 : n + 1 ≤ 9223372036854775807 := by have h2 := o.mx; rw [maxLen_is] at h2; omega
  have i2 : (n : Int) < (n : Int) + 1 := by omega
  clear hx hl
  go_enter Tryz.func54, Tryz.ntmps54
  go_upto_region 2 with (go_at_call 50; refine (SameKids_calls _ _ _ _ _ _ _ _ _ hr k true (by simp)).mono ?_; rintro en w1 ⟨rfl, j1, hw1⟩; have HW := hideIt hw1; clear hw1)
  have ea : (⟨g, 0, none⟩ : Addr).add (n * 2) = ⟨g, n * 2, none⟩ := by simp [Addr.add]; omega
  rw [ea] at c1 c2
  have c1' : w1.cell? ⟨g, n * 2, none⟩ = some (.int .i64 201) := by rw [HW.out]; exact c1
  have c2' : w1.cell? ⟨g, n * 2 + 1, none⟩ = some (.int .i64 202) := by rw [HW.out]; exact c2
  clear c1 c2 hr k o ea
  go_wp2
  go_ret
  exact ⟨rfl, _, HW.out⟩

def Lent1 (w : World) (base : Nat) (p : Option Addr × Nat × Nat) (xs : List UInt8) : Prop := ∃ g c, p = (some ⟨g, 0, none⟩, xs.length, c) ∧ base ≤ g ∧ OB w g (xs.length + 2) c (xs ++ [201, 202])
structure LO (w : World) (base : Nat) (A : Option Addr) (n c : Nat) (ps : List (Option Addr × Nat × Nat)) (xss : List (List UInt8)) : Prop where
  row : GC w base 40 1 A n c (ps.map sv)
  len : ps.length = xss.length
  each : ∀ (j : Nat) (p : Option Addr × Nat × Nat) (xs : List UInt8), ps[j]? = some p → xss[j]? = some xs → Lent1 w base p xs
  inc : ps.Pairwise Before
set_option maxRecDepth 100000 in
theorem LO.nil (w : World) (base : Nat) : LO w base none 0 0 [] [] := ⟨GC.nil _ _ _ _, rfl, fun j p xs h => by simp at h, List.Pairwise.nil⟩
set_option maxRecDepth 100000 in
theorem Lent1.below {w w' : World} {base : Nat} {p : Option Addr × Nat × Nat} {xs : List UInt8} (h : Lent1 w base p xs) (b : Below w.heap.size w w') : Lent1 w' base p xs := by
  obtain ⟨g, c, e, hb, o⟩ := h
  exact ⟨g, c, e, hb, o.below b⟩
set_option maxRecDepth 100000 in
theorem Lent1.lt {w : World} {base : Nat} {p : Option Addr × Nat × Nat} {xs : List UInt8} (h : Lent1 w base p xs) (a : Addr) (e : p.1 = some a) : a.block < w.heap.size ∧ base ≤ a.block := by
  obtain ⟨g, c, rfl, hb, o⟩ := h
  cases e
  exact ⟨o.lt, hb⟩
set_option maxRecDepth 100000 in
theorem Lent1.apart {w w' : World} {base base' e sz n c : Nat} {A : Option Addr} {cs : List Value} {p : Option Addr × Nat × Nat} {xs : List UInt8} (h : Lent1 w base p xs) (k : GC w base' e sz A n c cs) (gx : w.grownBy w' (A.map (·.block))) (ne : 5 ≠ e) : Lent1 w' base p xs := by
  obtain ⟨g, c', e', hb, o⟩ := h
  exact ⟨g, c', e', hb, OC.apart o k gx ne⟩
set_option maxRecDepth 100000 in
theorem LO.below {w w' : World} {base n c : Nat} {A : Option Addr} {ps : List (Option Addr × Nat × Nat)} {xss : List (List UInt8)} (h : LO w base A n c ps xss) (b : Below w.heap.size w w') : LO w' base A n c ps xss :=
  ⟨h.row.below b, h.len, fun j p xs h1 h2 => (h.each j p xs h1 h2).below b, h.inc⟩
set_option maxRecDepth 100000 in
theorem LO.n {w : World} {base n c : Nat} {A : Option Addr} {ps : List (Option Addr × Nat × Nat)} {xss : List (List UInt8)} (h : LO w base A n c ps xss) : ps.length = n := by
  have := h.row.1; simpa using this
set_option maxRecDepth 100000 in
theorem LO.lt {w : World} {base n c : Nat} {A : Option Addr} {ps : List (Option Addr × Nat × Nat)} {xss : List (List UInt8)} (h : LO w base A n c ps xss) : ∀ p ∈ ps, ∀ a, p.1 = some a → a.block < w.heap.size := by
  intro p hp a e
  obtain ⟨j, hj, rfl⟩ := List.getElem_of_mem hp
  have hx : xss[j]? = some (xss[j]'(by rw [← h.len]; exact hj)) := List.getElem?_eq_getElem _
  exact ((h.each j _ _ (List.getElem?_eq_getElem hj) hx).lt a e).1
set_option maxRecDepth 100000 in
theorem LO.push {w w' : World} {base n c lo g' c' g c2 : Nat} {A : Option Addr} {ps : List (Option Addr × Nat × Nat)} {xss : List (List UInt8)} {xs : List UInt8} (h : LO w base A n c ps xss) (o : OB w g' (xs.length + 2) c' (xs ++ [201, 202]))
    (hlo : ∀ p ∈ ps, ∀ a, p.1 = some a → a.block < lo) (hl : lo ≤ g') (hb : base ≤ lo) (gx : w.grownBy w' (A.map (·.block))) (orow : OC w' 40 1 g (n + 1) c2 (ps.map sv ++ [.slice (some ⟨g', 0, none⟩) xs.length c'])) (hg : base ≤ g) :
    LO w' base (some ⟨g, 0, none⟩) (n + 1) c2 (ps ++ [(some ⟨g', 0, none⟩, xs.length, c')]) (xss ++ [xs]) := by
  refine ⟨by rw [List.map_append]; exact GC.of orow hg, by rw [List.length_append, List.length_append, h.len]; rfl, ?_, ?_⟩
  · intro j p ys h1 h2
    by_cases hj : j < ps.length
    · rw [List.getElem?_append_left hj] at h1
      rw [List.getElem?_append_left (by rw [← h.len]; exact hj)] at h2
      exact (h.each j p ys h1 h2).apart h.row gx (by decide)
    · rw [List.getElem?_append_right (by omega)] at h1
      rw [List.getElem?_append_right (by rw [← h.len]; omega), ← h.len] at h2
      have hj0 : j - ps.length = 0 := by
        have := (List.getElem?_eq_some_iff.1 h1).1
        simp at this; omega
      rw [hj0] at h1 h2
      simp at h1 h2
      subst h1 h2
      exact ⟨g', c', rfl, Nat.le_trans hb hl, OC.apart o h.row gx (by decide)⟩
  · rw [List.pairwise_append]
    refine ⟨h.inc, List.pairwise_singleton _ _, fun p hpm q hq => ?_⟩
    simp at hq
    subst hq
    intro a b ea eb
    have h1 := hlo p hpm a ea
    cases eb
    simp only
    omega
/-- Separators in new memory, marks behind each, one more behind all. -/
structure LM (w : World) (base : Nat) (A : Option Addr) (n c : Nat) (ps : List (Option Addr × Nat × Nat)) (xss : List (List UInt8)) (gz : Nat) : Prop where
  row : GC w base 40 1 A (n + 1) c (ps.map sv ++ [.slice (some ⟨gz, 0, none⟩) 1 1])
  len : ps.length = xss.length
  each : ∀ (j : Nat) (p : Option Addr × Nat × Nat) (xs : List UInt8), ps[j]? = some p → xss[j]? = some xs → Lent1 w base p xs
  inc : ps.Pairwise Before
  last : RB w (some ⟨gz, 0, none⟩) 1 1 [203]
  lz : base ≤ gz
  ne : ∀ p ∈ ps, ∀ a, p.1 = some a → a.block ≠ gz
set_option maxRecDepth 100000 in
theorem LM.below {w w' : World} {base n c gz : Nat} {A : Option Addr} {ps : List (Option Addr × Nat × Nat)} {xss : List (List UInt8)} (h : LM w base A n c ps xss gz) (b : Below w.heap.size w w') : LM w' base A n c ps xss gz :=
  ⟨h.row.below b, h.len, fun j p xs h1 h2 => (h.each j p xs h1 h2).below b, h.inc, h.last.below b, h.lz, h.ne⟩
set_option maxRecDepth 100000 in
theorem LM.n {w : World} {base n c gz : Nat} {A : Option Addr} {ps : List (Option Addr × Nat × Nat)} {xss : List (List UInt8)} (h : LM w base A n c ps xss gz) : ps.length = n := by
  have := h.row.1
  simp at this
  omega
set_option maxRecDepth 100000 in
theorem Lent1.read {w : World} {base : Nat} {p : Option Addr × Nat × Nat} {xs : List UInt8} (h : Lent1 w base p xs) : RB w p.1 p.2.1 p.2.2 xs := by
  obtain ⟨g, c, rfl, hb, o⟩ := h
  have := o.read.take xs.length (by omega)
  rwa [List.take_left' rfl] at this
set_option maxRecDepth 100000 in
theorem LM.read {w : World} {base n c gz : Nat} {A : Option Addr} {ps : List (Option Addr × Nat × Nat)} {xss : List (List UInt8)} (h : LM w base A n c ps xss gz) : RM w A n c (ps.map sv) xss := by
  have hn := h.n
  refine ⟨?_, by rw [← h.len, hn], fun j xs hj => ?_⟩
  · rcases GC.oc h.row with ⟨_, q, _⟩ | ⟨g, rfl, hb, o⟩
    · omega
    · have := OC.read (o.take n (by omega))
      rwa [Nat.mul_one, List.take_left' (by rw [List.length_map, hn])] at this
  · have hl : j < ps.length := by rw [h.len]; exact (List.getElem?_eq_some_iff.1 hj).1
    have hp : ps[j]? = some ps[j] := List.getElem?_eq_getElem hl
    exact ⟨ps[j].1, ps[j].2.1, ps[j].2.2, by rw [List.getElem?_map, hp]; rfl, (h.each j _ xs hp hj).read⟩

set_option maxRecDepth 100000 in
theorem ne_map {A : Option Addr} {k : Nat} (h : ∀ ad, A = some ad → ad.block < k) : some k ≠ A.map (·.block) := by
  cases A with
  | none => simp
  | some ad => have := h ad rfl; simp; omega
set_option maxRecDepth 100000 in
set_option maxHeartbeats 2000000 in
theorem lent_calls (A : Option Addr) (n c : Nat) (vs : List Value) (l : List (List UInt8)) (w : World) (h : RM w A n c vs l) (hf : Few n l) :
    Calls Tryz.prog 46 #[.slice A n c] w fun e w' => ∃ (A' : Option Addr) (c' : Nat) (ps : List (Option Addr × Nat × Nat)) (gz : Nat), e = .returned (.slice A' n c') ∧ LM w' w.heap.size A' n c' ps l gz ∧ Below w.heap.size w w' := by
  have HL := hideIt h.len
  have hn := hf.n
  have HS := hideIt hf.s
  go_enter Tryz.func46, Tryz.ntmps46
  go_wp2
  go_loopw [3, 4] (fun bb ii wr => ∃ (i c3 : Nat) (A3 : Option Addr) (ps : List (Option Addr × Nat × Nat)), i ≤ n ∧ bb = .slice A3 i c3 ∧ ii = .int .i64 (i : Int) ∧ LO wr w.heap.size A3 i c3 ps (l.take i) ∧ Below w.heap.size w wr)
    (fun _ ii _ => n - (intOf ii).toNat)
  case atStart => exact ⟨0, 0, none, [], by omega, rfl, rfl, LO.nil _ _, Below.refl _ _⟩
  case round =>
    obtain ⟨i, c3, A3, ps, hi, rfl, rfl, lo, bw⟩ := hrel
    by_cases hlt : i < n
    · obtain ⟨ad, Ai, ni, ci, s, rfl, hs, cell, rs⟩ := (h.below bw).row i hlt
      have st : l.take (i + 1) = l.take i ++ [s] := by rw [List.take_add_one, hs]; rfl
      have ST := hideIt st
      have sl := rs.len
      have nl : ni ≤ 10000 := by rw [← sl]; exact HS.out s (List.mem_of_getElem? hs)
      have SL := hideIt sl
      have i1 : (i : Int) < (n : Int) := by omega
      have HLO := hideIt lo.lt
      have lc := World.block_lt_of_cell? wr _ cell
      clear st hs sl
      go_upto_region 6 with (first
        | (with_reducible refine wpB_app rfl (.tmp 16) (.tmp 17) rfl _ _ _ _ rfl o2a _ _ _ [201, 202] rfl lit (ni + 2) rfl (by omega) ?_; intro g3 c3' w3 q3 p3 o3 k3)
        | (go_at_call 22; refine (Bytes_calls _ _ _ _ _ rs (by omega)).mono ?_; rintro en w2 ⟨g2, c2, rfl, s2, o2, x2⟩; have ba := below1 w2 (.cells #[.int .u8 201, .int .u8 202] 5); have o2a := o2.below ba; have lit : RB (w2.alloc (.cells #[.int .u8 201, .int .u8 202] 5)) (some ⟨w2.heap.size, 0, none⟩) 2 2 [201, 202] := lit_read w2 [201, 202] 2 (0, 0) 5 rfl (by decide); have bx := blw_step x2 ba))
      have bb : Below wr.heap.size wr w3 := blw_own bx k3 bx.size s2
      have g3l : wr.heap.size ≤ g3 := by
        rcases q3 with rfl | q3
        · exact s2
        · exact Nat.le_trans bx.size q3
      have cell3 := (bb.cell (p := ad.add i) lc).trans cell
      have ba2 := below1 w3 (.cells #[.slice (some ⟨g3, 0, none⟩) ni c3'] 40)
      have lo4 := (lo.below bb).below ba2
      have o4 := o3.below ba2
      have R4 := sv_cell w3 (some ⟨g3, 0, none⟩, ni, c3')
      have b3 := blw_step bw bb
      have b4 := blw_step b3 ba2
      have r3 := o3.read
      clear o2 o2a lit ba bx x2 s2 k3 q3 p3 lo rs cell lc o3
      go_wp2_with (first
        | (with_reducible refine wpS_to rfl (.tmp 20) (.tmp 25) rfl _ _ _ _ rfl r3 _ ni rfl rfl (by omega) ?_; intro q6)
        | (with_reducible refine wpM_app rfl (.tmp 19) (.tmp 27) rfl w.heap.size _ _ _ _ rfl lo4.row _ (some ⟨g3, 0, none⟩, ni, c3') rfl R4 (by omega) b4.size ?_; intro g5 c5 w5 q5 o5 k5))
      have o4' : OB (w3.alloc (.cells #[.slice (some ⟨g3, 0, none⟩) ni c3'] 40)) g3 (s.length + 2) c3' (s ++ [201, 202]) := by rw [SL.out]; exact o4
      have lo5 := lo4.push o4' HLO.out g3l bw.size k5 (by rw [SL.out]; exact o5) q5
      rw [← ST.out] at lo5
      have b5 := GC.under lo4.row b4 k5 b4.size
      go_roundw
      case rel => exact ⟨i + 1, c5, _, _, by omega, rfl, by go_num, lo5, b5⟩
      case measure => simp [intOf]; omega
    · obtain rfl : n = i := by omega
      have ht : l.take n = l := List.take_of_length_le (by rw [HL.out]; exact Nat.le_refl _)
      rw [ht] at lo
      clear ht
      have ba := below1 wr (.cells #[.int .u8 203] 5)
      have z1 := u8_one wr 203
      have R2 := sv_cell (wr.alloc (.cells #[.int .u8 203] 5)) (some ⟨wr.heap.size, 0, none⟩, 1, 1)
      rw [show (wr.alloc (.cells #[.int .u8 203] 5)).heap.size = wr.heap.size + 1 by simp] at R2
      have RL : ∀ ad, A3 = some ad → ad.block < wr.heap.size := by
        intro ad e
        rcases GC.oc lo.row with ⟨q, _⟩ | ⟨g, q, _, o⟩
        · rw [q] at e; cases e
        · rw [q] at e; cases e; exact o.lt
      have NM := hideIt (ne_map RL)
      have ba2 := below1 (wr.alloc (.cells #[.int .u8 203] 5)) (.cells #[.slice (some ⟨wr.heap.size, 0, none⟩) 1 1] 40)
      have z2 := z1.below ba2
      have lo2 := (lo.below ba).below ba2
      have b2 := blw_step (blw_step bw ba) ba2
      have HLO := hideIt lo.lt
      have zb := bw.size
      have zl : wr.heap.size < ((wr.alloc (.cells #[.int .u8 203] 5)).alloc (.cells #[.slice (some ⟨wr.heap.size, 0, none⟩) 1 1] 40)).heap.size := z2.block_lt (by decide)
      clear z1 ba ba2 lo
      go_upto_region 8 with (with_reducible refine wpM_app rfl (.tmp 29) (.tmp 31) rfl w.heap.size _ _ _ _ rfl lo2.row _ (some ⟨wr.heap.size, 0, none⟩, 1, 1) rfl R2 (by omega) b2.size ?_; intro g5 c5 w5 q5 o5 k5)
      have b5 := GC.under lo2.row b2 k5 b2.size
      have hc := o5.le
      have z5 : RB w5 (some ⟨wr.heap.size, 0, none⟩) 1 1 [203] := by
        exact z2.same (fun ad e _ => by cases e; exact Sm.of_grown k5 zl NM.out)
      have lm : LM w5 w.heap.size (some ⟨g5, 0, none⟩) n c5 ps l wr.heap.size :=
        ⟨GC.of o5 q5, lo2.len, fun j p xs h1 h2 => (lo2.each j p xs h1 h2).apart lo2.row k5 (by decide), lo2.inc, z5, zb, fun p hp a e => Nat.ne_of_lt (HLO.out p hp a e)⟩
      have i1 : (n : Int) ≤ (c5 : Int) := by omega
      clear lo2 R2 z2 k5 o5 z5
      go_wp2
      go_ret
      exact ⟨_, _, _, _, rfl, lm, b5⟩
end Go.Proofs.YtmeakhiiebeneaaGreatDoor
