/- Rows of slices of bytes of the call's own, each slice in a block of its own (OM). -/
import Derived.Test.YtieoleiokjoccaaG
import Derived.Test.YtieoleiokjoccaaRM
namespace Go.Proofs.Ytieoleiokjoccaa
open Go.RowKit

def sv (p : Option Addr × Nat × Nat) : Value := .slice p.1 p.2.1 p.2.2
theorem sv_one (l : List (Option Addr × Nat × Nat)) : ∀ u ∈ l.map sv, u.oneCell' = true := by
  intro u hu
  obtain ⟨_, _, rfl⟩ := List.mem_map.1 hu
  rfl
def Before (p q : Option Addr × Nat × Nat) : Prop := ∀ a b, p.1 = some a → q.1 = some b → a.block ≠ b.block
/-- A row of slices of bytes; row and slices lie in blocks of the call's own, each slice in one of its own (no two alike). -/
structure OM (w : World) (base : Nat) (A : Option Addr) (n c : Nat) (ps : List (Option Addr × Nat × Nat)) (xss : List (List UInt8)) : Prop where
  row : GC w base 34 1 A n c (ps.map sv)
  len : ps.length = xss.length
  each : ∀ (j : Nat) (p : Option Addr × Nat × Nat) (xs : List UInt8), ps[j]? = some p → xss[j]? = some xs → GB w base p.1 p.2.1 p.2.2 xs
  inc : ps.Pairwise Before
theorem OM.nil (w : World) (base : Nat) : OM w base none 0 0 [] [] := ⟨GC.nil _ _ _ _, rfl, fun j p xs h => by simp at h, List.Pairwise.nil⟩
theorem OM.below {w w' : World} {base n c : Nat} {A : Option Addr} {ps : List (Option Addr × Nat × Nat)} {xss : List (List UInt8)} (h : OM w base A n c ps xss) (hb : Below w.heap.size w w') : OM w' base A n c ps xss :=
  ⟨h.row.below hb, h.len, fun j p xs h1 h2 => (h.each j p xs h1 h2).below hb, h.inc⟩
theorem OM.n {w : World} {base n c : Nat} {A : Option Addr} {ps : List (Option Addr × Nat × Nat)} {xss : List (List UInt8)} (h : OM w base A n c ps xss) : ps.length = n := by
  have := h.row.1; simpa using this
theorem OM.read {w : World} {base n c : Nat} {A : Option Addr} {ps : List (Option Addr × Nat × Nat)} {xss : List (List UInt8)} (h : OM w base A n c ps xss) : RM w A n c (ps.map sv) xss :=
  ⟨GC.read h.row, by rw [← h.len, h.n], fun j xs hj => by
    have hl : j < ps.length := by rw [h.len]; exact (List.getElem?_eq_some_iff.1 hj).1
    have hp : ps[j]? = some ps[j] := List.getElem?_eq_getElem hl
    exact ⟨ps[j].1, ps[j].2.1, ps[j].2.2, by rw [List.getElem?_map, hp]; rfl, (h.each j _ xs hp hj).read⟩⟩
theorem GB.lt {w : World} {base n c : Nat} {A : Option Addr} {xs : List UInt8} (h : GB w base A n c xs) (a : Addr) (e : A = some a) : a.block < w.heap.size ∧ base ≤ a.block := by
  rcases GC.oc h with ⟨rfl, _⟩ | ⟨g, rfl, h2, o⟩
  · cases e
  · cases e; exact ⟨o.lt, h2⟩
theorem OM.lt {w : World} {base n c : Nat} {A : Option Addr} {ps : List (Option Addr × Nat × Nat)} {xss : List (List UInt8)} (h : OM w base A n c ps xss) : ∀ p ∈ ps, ∀ a, p.1 = some a → a.block < w.heap.size := by
  intro p hp a e
  obtain ⟨j, hj, rfl⟩ := List.getElem_of_mem hp
  have hx : xss[j]? = some (xss[j]'(by rw [← h.len]; exact hj)) := List.getElem?_eq_getElem _
  exact ((h.each j _ _ (List.getElem?_eq_getElem hj) hx).lt a e).1
theorem OM.lower {w : World} {base base' n c : Nat} {A : Option Addr} {ps : List (Option Addr × Nat × Nat)} {xss : List (List UInt8)} (h : OM w base A n c ps xss) (hb : base' ≤ base) : OM w base' A n c ps xss :=
  ⟨GC.lower h.row hb, h.len, fun j p xs h1 h2 => GC.lower (h.each j p xs h1 h2) hb, h.inc⟩
theorem OM.push {w w' : World} {base n c lo n' c' g c2 : Nat} {A A' : Option Addr} {ps : List (Option Addr × Nat × Nat)} {xss : List (List UInt8)} {xs : List UInt8} (h : OM w base A n c ps xss) (hp : GB w lo A' n' c' xs)
    (hlo : ∀ p ∈ ps, ∀ a, p.1 = some a → a.block < lo) (hb : base ≤ lo) (gx : w.grownBy w' (A.map (·.block))) (o : OC w' 34 1 g (n + 1) c2 (ps.map sv ++ [.slice A' n' c'])) (hg : base ≤ g) :
    OM w' base (some ⟨g, 0, none⟩) (n + 1) c2 (ps ++ [(A', n', c')]) (xss ++ [xs]) := by
  refine ⟨by rw [List.map_append]; exact GC.of o hg, by rw [List.length_append, List.length_append, h.len]; rfl, ?_, ?_⟩
  · intro j p ys h1 h2
    by_cases hj : j < ps.length
    · rw [List.getElem?_append_left hj] at h1
      rw [List.getElem?_append_left (by rw [← h.len]; exact hj)] at h2
      exact GC.apart (h.each j p ys h1 h2) h.row gx (by decide)
    · rw [List.getElem?_append_right (by omega)] at h1
      rw [List.getElem?_append_right (by rw [← h.len]; omega), ← h.len] at h2
      have hj0 : j - ps.length = 0 := by
        have := (List.getElem?_eq_some_iff.1 h1).1
        simp at this; omega
      rw [hj0] at h1 h2
      simp at h1 h2
      subst h1 h2
      exact GC.apart (GC.lower hp hb) h.row gx (by decide)
  · rw [List.pairwise_append]
    refine ⟨h.inc, List.pairwise_singleton _ _, fun p hpm q hq => ?_⟩
    simp at hq
    subst hq
    intro a b ea eb
    have h1 := hlo p hpm a ea
    have h2 := (hp.lt b eb).2
    omega

theorem OC.tyy {w : World} {e e' sz sz' g n n' c c' : Nat} {cs cs' : List Value} (h : OC w e sz g n c cs) (k : OC w e' sz' g n' c' cs') : e = e' := by
  obtain ⟨_, cur, q1, _⟩ := OC.block h
  obtain ⟨_, cur', q2, _⟩ := OC.block k
  rw [q1] at q2
  injection q2 with q2
  injection q2
theorem OM.under {w w' : World} {base n c g : Nat} {A : Option Addr} {ps : List (Option Addr × Nat × Nat)} {xss : List (List UInt8)} {e sz m k : Nat} {cs : List Value} (h : OM w base A n c ps xss) (gx : w.grownBy w' (some g)) (hlo : ∀ p ∈ ps, ∀ a, p.1 = some a → a.block ≠ g) (o : OC w e sz g m k cs) (ne : 34 ≠ e) : OM w' base A n c ps xss := by
  refine ⟨?_, h.len, ?_, h.inc⟩
  · rcases h.row.oc with ⟨rfl, rfl, rfl, hcs⟩ | ⟨g2, rfl, hb, o2⟩
    · rw [hcs]; exact GC.nil _ _ _ _
    · refine GC.of (o2.same (Sm.of_grown gx o2.lt ?_)) hb
      simp only [ne_eq, Option.some.injEq]
      rintro rfl
      exact ne (OC.tyy o2 o)
  · intro j p xs h1 h2
    have hp := h.each j p xs h1 h2
    have hm : p ∈ ps := List.mem_of_getElem? h1
    refine GC.same hp fun a ea => ?_
    have := (hp.lt a ea).1
    exact Sm.of_grown gx this (by simpa using hlo p hm a ea)

theorem info_bs : (Try.prog.info? 34).map (fun i => (i.zero, i.size, i.bytes)) = some (some (.slice none 0 0), 1, 24) := by kernel_rfl
theorem wpM_app {w : World} {ops : Array Oper} {rest : List Oper} {o : Oper} {a : Act} {Q : Exit → Act → World → Prop} (hgd : o.guard = none) (s x : Operand) (ho : o.op = .call { callee := .builtin .append, args := #[s, x], argTypes := #[85, 85] })
    (base : Nat) (A : Option Addr) (n c : Nat) (l : List Value) (hs : a.eval s = .slice A n c) (hown : GC w base 34 1 A n c l)
    (ad : Addr) (p : Option Addr × Nat × Nat) (hx : a.eval x = .slice (some ad) 1 1) (hr : RC w 1 (some ad) 1 1 [sv p]) (hb : n + 1 ≤ 1000000) (hbase : base ≤ w.heap.size)
    (h : ∀ g' c' w', base ≤ g' → OC w' 34 1 g' (n + 1) c' (l ++ [sv p]) → w.grownBy w' (A.map (·.block)) → wpList Try.prog ops Q rest (a.put o.dst (.slice (some ⟨g', 0, none⟩) (n + 1) c')) w') :
    wpList Try.prog ops Q (o :: rest) a w := by
  obtain ⟨i0, hi, hz0, hz1, hz2⟩ := info_parts info_bs
  exact wpG_app hgd s x 85 ho base 34 i0 (.slice none 0 0) 1 24 Try.underlying85 hi hz0 hz1 hz2 rfl (by decide) A n c l hs hown ad 1 1 [sv p] hx hr (sv_one [p]) (by decide) (by omega) (by rw [maxLen_is]; omega) hbase h
theorem sv_cell (w : World) (p : Option Addr × Nat × Nat) : RC (w.alloc (.cells #[.slice p.1 p.2.1 p.2.2] 34)) 1 (some ⟨w.heap.size, 0, none⟩) 1 1 [sv p] :=
  OC.read (e := 34) (OC.mk rfl _ (heap_alloc_new w _) (Nat.le_refl _) (by rw [maxLen_is]; omega) rfl rfl)
theorem min_at (a : Int) (b n : Nat) (h : (n : Int) = if a ≤ (b : Int) then a else (b : Int)) (ts : Array TypeId) (t : TypeId) (w : World) : (Builtin.min_ ts t #[.int .i64 a, .int .i64 (b : Int)]).run Try.prog w = .ok (.int .i64 (n : Int)) w := by
  rw [run_min_int2]; split <;> (congr 2; split at h <;> omega)

end Go.Proofs.Ytieoleiokjoccaa
