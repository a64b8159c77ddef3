/- coppiceref.ByteLists; coppicekept.Book: ByteLists, whatever else the book holds. -/
import Derived.Test.YtmeakhiiebeneaaGreatDoorN3
import Derived.Test.YtmeakhiiebeneaaGreatDoorJMg
import Derived.Test.YtmeakhiiebeneaaGreatDoorN5
import Derived.Test.YtmeakhiiebeneaaGreatDoorM1
namespace Go.Proofs.YtmeakhiiebeneaaGreatDoor
open Go.RowKit

section
variable {w : World} {ops : Array Oper} {rest : List Oper} {o : Oper} {a : Act} {Q : Exit → Act → World → Prop}
theorem wpM_make' (hg : o.guard = none) (l c : Operand) (hop : o.op = Op.makeSlice 25 l c) (kl kc : IntKind) (C : Int) (n : Nat) (hl : a.eval l = .int kl 0) (hc : a.eval c = .int kc C) (hC : C = (n : Int)) (hn : n ≤ 1000000)
    (h : ∀ g w', w.heap.size ≤ g → OC w' 40 1 g 0 n [] → w.grownBy w' none → wpList Tryz.prog ops Q rest (a.put o.dst (.slice (some ⟨g, 0, none⟩) 0 n)) w') : wpList Tryz.prog ops Q (o :: rest) a w := by
  obtain ⟨i0, hi, hz0, hz1, hz2⟩ := info_parts info_bs
  exact wpList_make_own w hg l c 25 hop 0 40 i0 (.slice none 0 0) 1 Tryz.underlying25 hi hz0 hz1 kl kc C n hl hc hC (by rw [hz2]; omega) (by rw [maxLen_is]; omega) (Nat.zero_le _)
    fun w' h1 h2 => h _ w' (Nat.le_refl _) (OC.of_own h1) h2
end
set_option maxRecDepth 100000 in
set_option maxHeartbeats 2000000 in
theorem ByteLists_c (A : Option Addr) (n c : Nat) (vs : List Value) (l : List (List UInt8)) (w : World) (h : RM w A n c vs l) (hn : n ≤ 70000) (hs : ∀ x ∈ l, x.length ≤ 10000) :
    Calls Tryz.prog 85 #[.slice A n c] w fun e w' => ∃ (A' : Option Addr) (c' : Nat) (ps : List (Option Addr × Nat × Nat)), e = .returned (.slice A' n c') ∧ OM w' w.heap.size A' n c' ps l ∧ Below w.heap.size w w' := by
  have HL := hideIt h.len
  have HS := hideIt hs
  clear hs
  go_enter Tryz.func85, Tryz.ntmps85
  go_wp2_with (at_make; refine wpM_make' rfl _ _ rfl _ _ _ n rfl rfl rfl (by omega) ?_; intro g1 w1 s1 o1 k1)
  have b1 := below_of_grown k1 (Nat.le_refl _) (by simp)
  have G0 : OM w1 w.heap.size (some ⟨g1, 0, none⟩) 0 n [] (l.take 0) := ⟨GC.of o1 s1, rfl, fun j p xs q => by simp at q, List.Pairwise.nil⟩
  clear k1 o1
  go_loopw [3, 4] (fun bb ii wr => ∃ (i c3 : Nat) (A3 : Option Addr) (ps : List (Option Addr × Nat × Nat)), i ≤ n ∧ bb = .slice A3 i c3 ∧ ii = .int .i64 (i : Int) ∧ OM wr w.heap.size A3 i c3 ps (l.take i) ∧ Below w.heap.size w wr)
    (fun _ ii _ => n - (intOf ii).toNat)
  case atStart => exact ⟨0, n, _, [], by omega, rfl, rfl, G0, b1⟩
  case round =>
    clear G0 b1
    obtain ⟨i, c3, A3, ps, hi, rfl, rfl, om, bw⟩ := hrel
    by_cases hlt : i < n
    · obtain ⟨ad, Ai, ni, ci, s, rfl, hs, cell, rs⟩ := (h.below bw).row i hlt
      have st : l.take (i + 1) = l.take i ++ [s] := by rw [List.take_add_one, hs]; rfl
      have ST := hideIt st
      have nl : ni ≤ 10000 := by rw [← rs.len]; exact HS.out s (List.mem_of_getElem? hs)
      have i1 : (i : Int) < (n : Int) := by omega
      have HLO := hideIt om.lt
      clear st hs
      go_wp2_with (first
        | (with_reducible refine wpM_app rfl (.tmp 20) (.tmp 22) rfl w.heap.size _ _ _ _ rfl om3.row _ (some ⟨g2, 0, none⟩, ni, c2) rfl R3 (by omega) b3.size ?_; intro g5 c5 w5 q5 o5 k5)
        | (go_at_call 22; refine (Bytes_calls _ _ _ _ _ rs (by omega)).mono ?_; rintro en w2 ⟨g2, c2, rfl, s2, o2, x2⟩; have b2 := blw_step bw x2; have ba := below1 w2 (.cells #[.slice (some ⟨g2, 0, none⟩) ni c2] 40); have om3 := (om.below x2).below ba; have S3 := (GB.of o2 s2).below ba; have b3 := blw_step b2 ba; have R3 := sv_cell w2 (some ⟨g2, 0, none⟩, ni, c2)))
      have om5 := om3.push S3 HLO.out bw.size k5 o5 q5
      rw [← ST.out] at om5
      have b5 := GC.under om3.row b3 k5 b3.size
      go_roundw
      case rel => exact ⟨i + 1, c5, _, _, by omega, rfl, by go_num, om5, b5⟩
      case measure => simp [intOf]; omega
    · obtain rfl : n = i := by omega
      have ht : l.take n = l := List.take_of_length_le (by rw [HL.out]; exact Nat.le_refl _)
      rw [ht] at om
      clear ht
      go_wp2
      go_ret
      exact ⟨_, _, _, rfl, om, bw⟩

/-- the texts of lists of lists of bytes. -/
def EvL (w : World) (base : Nat) (pss : List (List Slot)) (xsss : List (List (List UInt8))) : Prop := pss.length = xsss.length ∧ ∀ (j : Nat) (ps : List Slot) (xss : List (List UInt8)), pss[j]? = some ps → xsss[j]? = some xss → ps.length = xss.length ∧ ∀ (k : Nat) (p : Slot) (xs : List UInt8), ps[k]? = some p → xss[k]? = some xs → GB w base p.1 p.2.1 p.2.2 xs
theorem EvL.imp {w w' : World} {base : Nat} {pss : List (List Slot)} {xsss : List (List (List UInt8))} (h : EvL w base pss xsss) (k : ∀ {A n c xs}, GB w base A n c xs → GB w' base A n c xs) : EvL w' base pss xsss :=
  ⟨h.1, fun j ps xss h1 h2 => ⟨(h.2 j ps xss h1 h2).1, fun i p xs h3 h4 => k ((h.2 j ps xss h1 h2).2 i p xs h3 h4)⟩⟩
theorem EvL.snoc {w : World} {base : Nat} {pss : List (List Slot)} {xsss : List (List (List UInt8))} {A : Option Addr} {b n c : Nat} {ps : List Slot} {l : List (List UInt8)} (h : EvL w base pss xsss) (o : OM w b A n c ps l) (hb : base ≤ b) : EvL w base (pss ++ [ps]) (xsss ++ [l]) := by
  refine ⟨by simp [h.1], fun j p x h1 h2 => ?_⟩
  rcases Nat.lt_or_ge j pss.length with q | q
  · rw [List.getElem?_append_left q] at h1
    rw [List.getElem?_append_left (by rw [← h.1]; exact q)] at h2
    exact h.2 j p x h1 h2
  · rw [List.getElem?_append_right q] at h1
    rw [List.getElem?_append_right (by rw [← h.1]; exact q), ← h.1] at h2
    rcases hz : j - pss.length with _ | z
    · rw [hz] at h1 h2
      cases h1
      cases h2
      exact ⟨o.len, fun k p xs h3 h4 => GC.lower (o.each k p xs h3 h4) hb⟩
    · rw [hz] at h1; cases h1
/-- lists of lists of bytes, and their copies. -/
structure Kl (w : World) (base m : Nat) (t u : Row) (pss qss : List (List Slot)) (xsss : List (List (List UInt8))) : Prop where
  kp : Kp w base 40 1 25 m t u (pss.map (List.map sv)) (qss.map (List.map sv))
  e1 : EvL w base pss xsss
  e2 : EvL w base qss xsss
theorem Kl.no (w : World) (base : Nat) : Kl w base 0 Row.no Row.no [] [] [] := ⟨Kp.no _ _ _ _ _, ⟨rfl, fun j ps xss h => by simp at h⟩, ⟨rfl, fun j ps xss h => by simp at h⟩⟩
theorem Kl.below {w w' : World} {base m : Nat} {t u : Row} {pss qss : List (List Slot)} {xsss : List (List (List UInt8))} (h : Kl w base m t u pss qss xsss) (b : Below w.heap.size w w') : Kl w' base m t u pss qss xsss :=
  ⟨h.kp.below b, h.e1.imp fun g => GC.below g b, h.e2.imp fun g => GC.below g b⟩
/-- the lists' blocks are not the rows of the lists of bytes. -/
def Djl (r s t u : Row) : Prop := ∀ g, InPs t.ps g ∨ InPs u.ps g → ¬ AtB r.A g ∧ ¬ AtB s.A g
/-- where rows of lists of bytes are written. -/
theorem Kl.apart {w w' : World} {gk base base' m m' : Nat} {r s t u : Row} {pss qss : List (List Slot)} {xsss : List (List (List UInt8))} {css dss : List (List Value)} {bs : List Value} (h : Kl w base m t u pss qss xsss) (k : Kp w base' 5 1 40 m' r s css dss) (dj : Djl r s t u) (bk : Bk w gk bs) (ou : Out (Rws gk r.A s.A) w w') : Kl w' base m t u pss qss xsss := by
  have key : ∀ {n c : Nat} {A : Option Addr} {ps : List Slot} {xss : List (List Value)}, LS w base 40 1 25 A n c ps xss → (∀ g, InPs ps g → ¬ AtB r.A g ∧ ¬ AtB s.A g) → LS w' base 40 1 25 A n c ps xss := fun l hd =>
    l.out ou (fun g q => by
      rintro (rfl | z | z)
      · exact absurd (ty_ne ⟨_, _, _, bk⟩ (l.row.atb q)) (by decide)
      · exact absurd (ty_ne (k.ls.row.atb z) (l.row.atb q)) (by decide)
      · exact absurd (ty_ne (k.lw.row.atb z) (l.row.atb q)) (by decide)) (fun g q => by
      rintro (rfl | z | z)
      · exact absurd (ty_ne ⟨_, _, _, bk⟩ (l.inb q)) (by decide)
      · exact (hd g q).1 z
      · exact (hd g q).2 z)
  exact ⟨⟨key h.kp.ls fun g q => dj g (Or.inl q), key h.kp.lw fun g q => dj g (Or.inr q), h.kp.ap⟩, h.e1.imp fun g => k.keepGC bk ou g (by decide) (by decide), h.e2.imp fun g => k.keepGC bk ou g (by decide) (by decide)⟩
/-- a list of pieces stays where rows of lists of bytes are written. -/
theorem OM.apartV {w w' : World} {gk base b0 m n c : Nat} {r s : Row} {css dss : List (List Value)} {bs : List Value} {A : Option Addr} {ps : List Slot} {l : List (List UInt8)} (h : OM w b0 A n c ps l) (k : Kp w base 5 1 40 m r s css dss) (bk : Bk w gk bs) (ou : Out (Rws gk r.A s.A) w w') (hA : ∀ g, AtB A g → ¬ AtB r.A g ∧ ¬ AtB s.A g) : OM w' b0 A n c ps l :=
  ⟨h.row.out ou fun g q => by
    rintro (rfl | z | z)
    · exact absurd (ty_ne ⟨_, _, _, bk⟩ (h.row.atb q)) (by decide)
    · exact (hA g q).1 z
    · exact (hA g q).2 z, h.len, fun j p xs h1 h2 => k.keepGC bk ou (h.each j p xs h1 h2) (by decide) (by decide), h.inc⟩
/-- and where rows of lists of lists are. -/
theorem OM.apartW {w w' : World} {gk base b0 e sz rt m n c n' c' : Nat} {A A' : Option Addr} {ps ps' : List Slot} {xss : List (List Value)} {bs : List Value} {l : List (List UInt8)} (h : OM w b0 A n c ps l) (k : LS w base e sz rt A' m c' ps' xss) (bk : Bk w gk bs) (ou : Out (fun g => g = gk ∨ AtB A' g) w w') (n1 : rt ≠ 40) (n2 : rt ≠ 5) (_ : n' = n') : OM w' b0 A n c ps l :=
  ⟨h.row.apart1 k bk ou (by decide) n1, h.len, fun j p xs h1 h2 => GC.apart1 (h.each j p xs h1 h2) k bk ou (by decide) n2, h.inc⟩
theorem OM.before {w : World} {base n c i : Nat} {A : Option Addr} {ps : List Slot} {l : List (List UInt8)} {p : Slot} (h : OM w base A n c ps l) (hp : ps[i]? = some p) : ∀ q ∈ ps.take i, Before q p := by
  have hi := h.inc
  obtain ⟨hl, rfl⟩ := List.getElem?_eq_some_iff.1 hp
  have e : ps = ps.take i ++ ([ps[i]] ++ ps.drop (i + 1)) := by simp
  rw [e, List.pairwise_append] at hi
  exact fun q hq => hi.2.2 q hq _ (List.mem_append.2 (Or.inl (List.mem_singleton.2 rfl)))
theorem OM.cells {w : World} {base n c i : Nat} {A : Option Addr} {ps : List Slot} {l : List (List UInt8)} (h : OM w base A n c ps l) (hi : i < n) : ∃ (ad : Addr) (p : Slot) (xs : List UInt8), A = some ad ∧ ps[i]? = some p ∧ l[i]? = some xs ∧ w.cell? (ad.add i) = some (.slice p.1 p.2.1 p.2.2) ∧ GB w base p.1 p.2.1 p.2.2 xs := by
  have hl : i < ps.length := by rw [h.n]; exact hi
  have hp : ps[i]? = some ps[i] := List.getElem?_eq_getElem hl
  have hx : l[i]? = some (l[i]'(by rw [← h.len]; exact hl)) := List.getElem?_eq_getElem _
  obtain ⟨ad, u, e1, e2, e3⟩ := RC.at_ (GC.read h.row) i hi
  rw [List.getElem?_map, hp] at e2
  cases e2
  exact ⟨ad, _, _, e1, hp, hx, e3, h.each i _ _ hp hx⟩
theorem OM.base1 {w : World} {base n c : Nat} {A : Option Addr} {ps : List Slot} {l : List (List UInt8)} (h : OM w base A n c ps l) : ∀ p ∈ ps, ∀ a, p.1 = some a → base ≤ a.block := by
  intro p hp a ha
  obtain ⟨j, hj, rfl⟩ := List.getElem_of_mem hp
  have hx : l[j]? = some (l[j]'(by rw [← h.len]; exact hj)) := List.getElem?_eq_getElem _
  exact ((h.each j _ _ (List.getElem?_eq_getElem hj) hx).lt a ha).2
/-- what ByteLists leaves. -/
def KeptL (gk base m ml : Nat) (r s t u : Row) (xss : List (List UInt8)) (pss qss : List (List Slot)) (xsss : List (List (List UInt8))) (A : Option Addr) (n c : Nat) (ps : List Slot) (l : List (List UInt8)) (bs : List Value) (w w' : World) : Prop :=
  ∃ (r' s' t' u' : Row) (qs : List Slot), Bk w' gk ((((bs.set 2 (r'.v (m + n))).set 3 (s'.v (m + n))).set 11 (t'.v (ml + 1))).set 12 (u'.v (ml + 1))) ∧ Kp w' base 5 1 40 (m + n) r' s' ((xss ++ l).map u8s) ((xss ++ l).map u8s) ∧ Kl w' base (ml + 1) t' u' (pss ++ [ps]) (qss ++ [qs]) (xsss ++ [l]) ∧ Djl r' s' t' u' ∧ r'.ps = r.ps ++ ps ∧ t'.ps = t.ps ++ [(A, n, c)] ∧
    (∀ g, AtB r'.A g → AtB r.A g ∨ w.heap.size ≤ g) ∧ (∀ g, AtB s'.A g → AtB s.A g ∨ w.heap.size ≤ g) ∧ Out (fun g => Rws gk r.A s.A g ∨ AtB t.A g ∨ AtB u.A g) w w' ∧ (∀ p ∈ s'.ps, ∀ a, p.1 = some a → p ∈ s.ps ∨ w.heap.size ≤ a.block) ∧ (∀ p ∈ qs, ∀ a, p.1 = some a → w.heap.size ≤ a.block)
set_option maxRecDepth 100000 in
set_option maxHeartbeats 8000000 in
theorem ByteLists_v (gk base m ml : Nat) (bs : List Value) (r s t u : Row) (xss : List (List UInt8)) (pss qss : List (List Slot)) (xsss : List (List (List UInt8))) (A : Option Addr) (n c : Nat) (ps : List Slot) (l : List (List UInt8)) (w : World) (hk : Bk w gk bs) (e2 : bs[2]? = some (r.v m)) (e3 : bs[3]? = some (s.v m)) (e11 : bs[11]? = some (t.v ml)) (e12 : bs[12]? = some (u.v ml)) (hB : Kp w base 5 1 40 m r s (xss.map u8s) (xss.map u8s)) (hL : Kl w base ml t u pss qss xsss) (dj : Djl r s t u) (o : OM w base A n c ps l) (hA : ∀ g, AtB A g → ¬ AtB r.A g ∧ ¬ AtB s.A g) (hne : ∀ p ∈ r.ps, ∀ q ∈ ps, ∀ a b, p.1 = some a → q.1 = some b → a.block ≠ b.block) (hnt : ∀ p ∈ t.ps, ∀ a b, p.1 = some a → A = some b → a.block ≠ b.block) (hn : n ≤ 2000) (hs : ∀ x ∈ l, x.length ≤ 10000) (hm : m + n ≤ 800000) (hml : ml ≤ 800000) (hb : base ≤ w.heap.size) :
    Calls Tryz.prog 34 #[.pointer (some ⟨gk, 0, none⟩), .slice A n c] w fun e w' => (∃ v, e = .returned v) ∧ KeptL gk base m ml r s t u xss pss qss xsss A n c ps l bs w w' := by
  have HE11 := hideIt e11
  have HE12 := hideIt e12
  have HNE := hideIt hne
  have HNT := hideIt hnt
  have HS := hideIt hs
  have HDJ := hideIt dj
  have HA := hideIt hA
  have HLA := hideIt (show ∀ g, AtB A g → g < w.heap.size from fun g q => by obtain ⟨a, ea, rfl⟩ := q; exact (o.row.lt a ea).1)
  have HLT := hideIt (show ∀ g, InPs t.ps g ∨ InPs u.ps g → g < w.heap.size from fun g q => by
    rcases q with ⟨p, hp, a, ha, rfl⟩ | ⟨p, hp, a, ha, rfl⟩
    · exact (hL.kp.ls.lt p hp a ha).1
    · exact (hL.kp.lw.lt p hp a ha).1)
  have hL2 : 2 < bs.length := (List.getElem?_eq_some_iff.1 e2).1
  have hL3 : 3 < bs.length := (List.getElem?_eq_some_iff.1 e3).1
  have HL2 := hideIt hL2
  have HL3 := hideIt hL3
  have HNL := hideIt (show l.length = n by rw [← o.len, o.n])
  have HNP := hideIt o.n
  have B0 := Bv.start hk e2 e3 hB
  clear hne hnt hs e11 e12 e2 e3 hL2 hL3 hk hB dj hA
  go_enter Tryz.func34, Tryz.ntmps34
  go_upto_region 1 with fail
  go_loopw [4] (fun ii wr => ∃ (i : Nat) (r' s' : Row), i ≤ n ∧ ii = .int .i64 (i : Int) ∧ Bv w wr gk base (m + i) r s r' s' bs (xss ++ l.take i) (ps.take i) ∧ Kl wr base ml t u pss qss xsss ∧ OM wr base A n c ps l)
    (fun ii _ => n - (intOf ii).toNat)
  case atStart => exact ⟨0, r, s, by omega, rfl, by simpa using B0, hL, o⟩
  case round =>
    clear B0 hL o
    obtain ⟨i, r', s', hi, rfl, B, KL, om⟩ := hrel
    have DJ1 : Hid (Djl r' s' t u) := hideIt fun g q => ⟨fun z => by
      rcases B.n1 g z with y | y
      · exact (HDJ.out g q).1 y
      · have := HLT.out g q; omega, fun z => by
      rcases B.n2 g z with y | y
      · exact (HDJ.out g q).2 y
      · have := HLT.out g q; omega⟩
    have HA1 : Hid (∀ g, AtB A g → ¬ AtB r'.A g ∧ ¬ AtB s'.A g) := hideIt fun g q => ⟨fun z => by
      rcases B.n1 g z with y | y
      · exact (HA.out g q).1 y
      · have := HLA.out g q; omega, fun z => by
      rcases B.n2 g z with y | y
      · exact (HA.out g q).2 y
      · have := HLA.out g q; omega⟩
    by_cases hlt : i < n
    · obtain ⟨ad, ⟨A1, n1, d1⟩, xs, rfl, hp, hx, i0, G1⟩ := om.cells hlt
      have j1 : (i : Int) < (n : Int) := by omega
      have ST : Hid (l.take (i + 1) = l.take i ++ [xs]) := hideIt (by rw [List.take_add_one, hx]; rfl)
      have SP : Hid (ps.take (i + 1) = ps.take i ++ [(A1, n1, d1)]) := hideIt (by rw [List.take_add_one, hp]; rfl)
      simp only at i0 G1
      have l1 : n1 ≤ 10000 := by have := (GB.read G1).len; have := HS.out xs (List.mem_of_getElem? hx); omega
      have NE1 : Hid (∀ p ∈ r'.ps, ∀ a b, p.1 = some a → A1 = some b → a.block ≠ b.block) := hideIt fun p hp' a b ha hb' => by
        rw [B.ps] at hp'
        rcases List.mem_append.1 hp' with q | q
        · exact HNE.out p q _ (List.mem_of_getElem? hp) a b ha hb'
        · exact om.before hp p q a b ha hb'
      have zb : base ≤ wr.heap.size := Nat.le_trans hb B.ou.size
      have BY := Bytes_v gk base (m + i) _ r' s' _ A1 n1 d1 xs wr B.bk (B.e2 HL2.out) (B.e3 HL3.out) B.kp G1 NE1.out (by omega) (by omega) zb
      clear hp hx G1
      go_wp2_with (go_at_call 19; (with_reducible refine BY.mono ?_); intro en w1 q; obtain ⟨⟨v1, rfl⟩, k1⟩ := q)
      have KL1 := KL.apart B.kp DJ1.out B.bk k1.out
      have om1 := om.apartV B.kp B.bk k1.out HA1.out
      obtain ⟨r1, s1, B1⟩ := B.step rfl k1
      clear BY k1 B KL om i0 zb NE1
      rw [List.append_assoc, ← ST.out, ← SP.out] at B1
      go_roundw
      case rel => exact ⟨i + 1, r1, s1, by omega, by go_num, B1, KL1, om1⟩
      case measure => simp [intOf]; omega
    · obtain rfl : i = n := by omega
      rw [List.take_of_length_le (by rw [HNL.out]; exact Nat.le_refl _), List.take_of_length_le (by rw [HNP.out]; exact Nat.le_refl _)] at B
      have zb : base ≤ wr.heap.size := Nat.le_trans hb B.ou.size
      have E11 := hideIt (B.eN 11 _ HE11.out (by decide) (by decide))
      have E12 := hideIt (B.eN 12 _ HE12.out (by decide) (by decide))
      have hk := B.bk
      have HB0 := hideIt B
      have HKL := hideIt KL
      have HOM := hideIt om
      clear B
      generalize hbs5 : (bs.set 2 (r'.v (m + i))).set 3 (s'.v (m + i)) = bs5 at hk E11 E12
      have HBS := hideIt hbs5
      clear hbs5
      have HBK := hideIt hk
      obtain ⟨⟨ls, lw, ap⟩, -, -⟩ := KL
      have HAP := hideIt ap
      have HWL := hideIt lw.lt
      obtain ⟨At, ct, pt⟩ := t
      obtain ⟨Au, cu, pu⟩ := u
      simp only [Row.v] at *
      clear ap
      have ba := below1 wr (.cells #[.slice A i c] 25)
      have bk1 := hk.below ba
      have ls1 := ls.below ba
      have lw1 := lw.below ba
      have o1 := om.below ba
      have R1 := svN_cell wr (A, i, c)
      have b1 := Nat.le_trans zb ba.size
      have c2 := OC.cell hk 11 _ E11.out
      have c21 := OC.cell bk1 11 _ E11.out
      go_upto_region 5 with (first
        | ((with_reducible refine wpNx_app rfl (.tmp 21) (.tmp 23) rfl base _ _ _ _ rfl ls1.row _ (A, i, c) rfl R1 (by omega) b1 ?_); intro g5 c5 w5 q5 Q5 o5 k5; have ZA : (wr.alloc (.cells #[.slice A i c] 25)).heap.size = wr.heap.size + 1 := (by simp); have st := row_push (F := 11) (by decide) (by decide) (by decide) bk1 ls1 o1.row HNT.out k5 o5 q5; have cc5 := OC.cell st.1 11 _ E11.out; have ff5 := OC.free st.1 11))
      obtain ⟨-, hk6, ls6, ou6⟩ := st
      have lw6 := lw1.beside ls1 (by decide) (by decide) (by decide) bk1 HAP.out ou6
      have o6 := o1.apartW (n' := 0) ls1 bk1 ou6 (by decide) (by decide) rfl
      have ou : Out (Rws gk At Au) wr (w5.setCell ⟨gk, 11, none⟩ (.slice (some ⟨g5, 0, none⟩) (ml + 1) c5)) := (Out.of_below ba).trans ou6.rws1 (fun _ q => Or.inl q)
      have NEW5 : Hid (∀ g, AtB (some (⟨g5, 0, none⟩ : Addr)) g → AtB At g ∨ wr.heap.size ≤ g) := hideIt fun g hg => by
        obtain ⟨a, ea, rfl⟩ := hg
        cases ea
        rcases Q5 with ⟨b, z, e2⟩ | z
        · exact Or.inl ⟨b, z, e2.symm⟩
        · exact Or.inr (by simp only; omega)
      have APN : Hid (∀ g, AtB Au g → g5 ≠ g) := hideIt fun g hg e => by
        subst e
        have h1 : g5 < wr.heap.size := by obtain ⟨a, ea, e⟩ := hg; have := (lw.row.lt a ea).1; omega
        rcases Q5 with ⟨a, z, e2⟩ | z
        · exact HAP.out g5 ⟨a, z, e2.symm⟩ hg
        · omega
      clear ba bk1 ls1 lw1 o1 R1 c2 c21 cc5 ff5 k5 o5 ou6 hk ls lw om
      have z6 := Nat.le_trans zb ou.size
      have HS6 : Hid ((bs5.set 11 (.slice (some ⟨g5, 0, none⟩) (ml + 1) c5))[12]? = some (.slice Au ml cu)) := hideIt (by rw [List.getElem?_set, if_neg (by decide)]; exact E12.out)
      generalize w5.setCell ⟨gk, 11, none⟩ (.slice (some ⟨g5, 0, none⟩) (ml + 1) c5) = w6 at hk6 ls6 lw6 o6 ou z6 ⊢
      have cw6 := OC.cell hk6 12 _ HS6.out
      have cw6d : w6.drew.cell? ⟨gk, 12, none⟩ = some (.slice Au ml cu) := cw6
      have bd := drew1 w6
      have od := (o6.below bd).read
      have zd : base ≤ w6.drew.heap.size := z6
      clear ZA Q5
      go_region_law
        (first
          | (refine stepNx_app rfl (.tmp 31) (.tmp 34) rfl base _ _ _ _ rfl lw8.row _ (A7, i, c7) rfl R8 (by omega) z8 ?_; intro g9 c9 w9 q9 Q9 o9 k9; have st9 := row_push (F := 12) (by decide) (by decide) (by decide) bk8 lw8 S8.row NE8.out k9 o9 q9; have cc9 := OC.cell st9.1 12 _ HS6.out; have ff9 := OC.free st9.1 12)
          | (refine step_of rfl ?_; go_simp; go_at_call 85; ((with_reducible refine (ByteLists_c _ _ _ _ _ _ od (by omega) HS.out).mono ?_); rintro en w7 ⟨A7, c7, qs7, rfl, o7, x7⟩; have bd7 := blw_step bd x7; have cw7 := OC.cell (hk6.below bd7) 12 _ HS6.out; have ba8 := below1 w7 (.cells #[.slice A7 i c7] 25); have bd8 := blw_step bd7 ba8; have bk8 := hk6.below bd8; have ls8 := ls6.below bd8; have lw8 := lw6.below bd8; have S8 := (o7.lower zd).below ba8; have R8 := svN_cell w7 (A7, i, c7); have z8 := Nat.le_trans z6 bd8.size; have cw8 := OC.cell bk8 12 _ HS6.out; have cw8a : (w7.alloc (.cells #[.slice A7 i c7] 25)).cell? ⟨gk, 12, none⟩ = some (.slice Au ml cu) := cw8; have HA7 : Hid (∀ b, A7 = some b → w6.heap.size ≤ b.block) := hideIt (fun b hb' => (o7.row.lt b hb').2); have HQ7 : Hid (∀ p ∈ qs7, ∀ a, p.1 = some a → w6.heap.size ≤ a.block) := hideIt (fun p hp a ha => OM.base1 o7 p hp a ha); have NE8 : Hid (∀ p ∈ pu, ∀ a b, p.1 = some a → A7 = some b → a.block ≠ b.block) := hideIt (fun p hp a b ha hb' e => by have h1 := (HWL.out p hp a ha).1; have h2 := ou.size; have h3 := HA7.out b hb'; omega))))
      all_goals
        obtain ⟨-, bkA, lsA, ouA⟩ := st9
        have z9 := bd8.size
        have ls9 := ls8.beside lw8 (by decide) (by decide) (by decide) bk8 (fun g q z => APN.out g q (by obtain ⟨a, ea, e⟩ := z; cases ea; exact e)) ouA
        have OU := (ou.step bd8).rws2 ouA
        have AP : Hid (∀ g, AtB (some (⟨g5, 0, none⟩ : Addr)) g → ¬ AtB (some (⟨g9, 0, none⟩ : Addr)) g) := hideIt (fun g h1 h2 => by
          obtain ⟨a, ha, ea⟩ := h1
          obtain ⟨b, hb', eb⟩ := h2
          cases ha
          cases hb'
          have e : g5 = g9 := ea.trans eb.symm
          rcases Q9 with ⟨b, z, e2⟩ | z
          · exact APN.out g9 ⟨b, z, e2.symm⟩ e
          · have := (ls8.row.lt ⟨g5, 0, none⟩ rfl).1
            have z' : (w7.alloc (.cells #[.slice A7 i c7] 25)).heap.size ≤ g9 := z
            simp only at this
            omega)
        have KT : Kp wr base 40 1 25 ml ⟨At, ct, pt⟩ ⟨Au, cu, pu⟩ (pss.map (List.map sv)) (qss.map (List.map sv)) := HKL.out.kp
        have KPB := hideIt (HB0.out.kp.apart KT HBK.out (by decide) (by decide) (by decide) (by decide) OU)
        have EVa := HKL.out.e1.imp fun g => KT.keepGC HBK.out OU g (by decide) (by decide)
        have EVb := HKL.out.e2.imp fun g => KT.keepGC HBK.out OU g (by decide) (by decide)
        have OMA : OM _ base A i c ps l := ⟨KT.keepGC HBK.out OU HOM.out.row (by decide) (by decide), HOM.out.len, fun j p xs h1 h2 => KT.keepGC HBK.out OU (HOM.out.each j p xs h1 h2) (by decide) (by decide), HOM.out.inc⟩
        have OMB := S8.apartW (n' := 0) lw8 bk8 ouA (by decide) (by decide) rfl
        have m1 : pss.map (List.map sv) ++ [ps.map sv] = (pss ++ [ps]).map (List.map sv) := by rw [List.map_append]; rfl
        have m2 : qss.map (List.map sv) ++ [qs7.map sv] = (qss ++ [qs7]).map (List.map sv) := by rw [List.map_append]; rfl
        rw [m1] at ls9
        rw [m2] at lsA
        rw [← HBS.out] at bkA
        have ZR := HB0.out.ou.size
        have DJN : Djl r' s' ⟨some ⟨g5, 0, none⟩, c5, pt ++ [(A, i, c)]⟩ ⟨some ⟨g9, 0, none⟩, c9, pu ++ [(A7, i, c7)]⟩ := fun g q => by
          rcases q with ⟨p, hp, a, ha, e⟩ | ⟨p, hp, a, ha, e⟩
          · rcases List.mem_append.1 hp with q | q
            · exact DJ1.out g (Or.inl ⟨p, q, a, ha, e⟩)
            · rw [List.mem_singleton] at q; subst q
              exact HA1.out g ⟨a, ha, e⟩
          · rcases List.mem_append.1 hp with q | q
            · exact DJ1.out g (Or.inr ⟨p, q, a, ha, e⟩)
            · rw [List.mem_singleton] at q; subst q
              have h3 := HA7.out a ha
              have h4 := ou.size
              exact ⟨fun z => by obtain ⟨b, eb, z⟩ := z; have := (HB0.out.kp.ls.row.lt b eb).1; omega, fun z => by obtain ⟨b, eb, z⟩ := z; have := (HB0.out.kp.lw.row.lt b eb).1; omega⟩
        have FIN : Hid (KeptL gk base m ml r s ⟨At, ct, pt⟩ ⟨Au, cu, pu⟩ xss pss qss xsss A i c ps l bs w _) := hideIt ⟨r', s', ⟨some ⟨g5, 0, none⟩, c5, pt ++ [(A, i, c)]⟩, ⟨some ⟨g9, 0, none⟩, c9, pu ++ [(A7, i, c7)]⟩, qs7, bkA, KPB.out, ⟨⟨ls9, lsA, AP.out⟩, EVa.snoc OMA (Nat.le_refl _), EVb.snoc OMB (Nat.le_refl _)⟩, DJN, HB0.out.ps, rfl, HB0.out.n1, HB0.out.n2, (HB0.out.ou.mono fun _ q => Or.inl q).trans OU (fun g q => by
            by_cases hg : g < w.heap.size
            · rcases q with q | q | q
              · exact Or.inl (Or.inl (Or.inl q))
              · exact Or.inl (Or.inr (Or.inl q))
              · exact Or.inl (Or.inr (Or.inr q))
            · exact Or.inr (by omega)), HB0.out.n3, fun p hp a ha => by have h1 := HQ7.out p hp a ha; have h4 := ou.size; omega⟩
        clear KPB EVa EVb OMA OMB m1 m2 lsA ls9 bkA ouA bd8 bk8 ls8 lw8 S8 R8 z8 cw8 cw8a cc9 ff9 k9 o9 OU KT DJN
        go_wp2
        go_end0
        exact ⟨⟨_, rfl⟩, FIN.out⟩
end Go.Proofs.YtmeakhiiebeneaaGreatDoor
