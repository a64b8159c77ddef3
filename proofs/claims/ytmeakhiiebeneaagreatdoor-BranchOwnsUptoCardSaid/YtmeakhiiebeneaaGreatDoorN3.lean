/- coppicekept.Book while lists are kept: words, and Bytes, whatever else the book holds. -/
import Derived.Test.YtmeakhiiebeneaaGreatDoorN1
import Derived.Test.YtmeakhiiebeneaaGreatDoorN2
namespace Go.Proofs.YtmeakhiiebeneaaGreatDoor
open Go.RowKit

structure Row where
  A : Option Addr
  c : Nat
  ps : List Slot
def Row.no : Row := ⟨none, 0, []⟩
def Row.v (r : Row) (m : Nat) : Value := .slice r.A m r.c
/-- the book's block and two rows. -/
def Rws (gk : Nat) (A B : Option Addr) (g : Nat) : Prop := g = gk ∨ AtB A g ∨ AtB B g
theorem GC.atb {w : World} {base e sz n c : Nat} {A : Option Addr} {cs : List Value} (h : GC w base e sz A n c cs) {g : Nat} (q : AtB A g) : ∃ n' c' cs', OC w e sz g n' c' cs' := by
  obtain ⟨a, ha, rfl⟩ := q
  rcases h.oc with ⟨e0, _⟩ | ⟨g0, e0, _, o⟩
  · rw [ha] at e0; cases e0
  · rw [ha] at e0; cases e0
    exact ⟨_, _, _, o⟩
theorem LS.inb {w : World} {base e sz rt n c : Nat} {A : Option Addr} {ps : List Slot} {css : List (List Value)} (h : LS w base e sz rt A n c ps css) {g : Nat} (q : InPs ps g) : ∃ n' c' cs', OC w e sz g n' c' cs' := by
  obtain ⟨p, hp, a, ha, rfl⟩ := q
  obtain ⟨j, hj⟩ := List.getElem?_of_mem hp
  obtain ⟨cs, hc⟩ : ∃ cs, css[j]? = some cs := ⟨_, List.getElem?_eq_getElem (by rw [← h.len]; exact (List.getElem?_eq_some_iff.1 hj).1)⟩
  exact (h.each j p cs hj hc).atb ⟨a, ha, rfl⟩
theorem ty_ne {w : World} {g : Nat} {e e' sz sz' : Nat} (h : ∃ n c cs, OC w e sz g n c cs) (h' : ∃ n c cs, OC w e' sz' g n c cs) : e = e' := by
  obtain ⟨_, _, _, o⟩ := h
  obtain ⟨_, _, _, o'⟩ := h'
  exact OC.tyy o o'
/-- a store of a slice into the book, behind an append to a row. -/
theorem row_push {w w5 : World} {gk base e sz rt m cb g5 c5 F : Nat} {Ab : Option Addr} {bs : List Value} {ps : List Slot} {css : List (List Value)} {A : Option Addr} {n c : Nat} {cs : List Value} (ne : e ≠ rt) (n1 : 39 ≠ e) (n2 : 39 ≠ rt) (bk : Bk w gk bs) (ls : LS w base e sz rt Ab m cb ps css) (o : GC w base e sz A n c cs) (hne : ∀ p ∈ ps, ∀ a b, p.1 = some a → A = some b → a.block ≠ b.block)
    (k5 : w.grownBy w5 (Ab.map (·.block))) (o5 : OC w5 rt 1 g5 (m + 1) c5 (ps.map sv ++ [.slice A n c])) (q5 : base ≤ g5) :
    Bk w5 gk bs ∧ Bk (w5.setCell ⟨gk, F, none⟩ (.slice (some ⟨g5, 0, none⟩) (m + 1) c5)) gk (bs.set F (.slice (some ⟨g5, 0, none⟩) (m + 1) c5)) ∧
    LS (w5.setCell ⟨gk, F, none⟩ (.slice (some ⟨g5, 0, none⟩) (m + 1) c5)) base e sz rt (some ⟨g5, 0, none⟩) (m + 1) c5 (ps ++ [(A, n, c)]) (css ++ [cs]) ∧
    Out (fun g => g = gk ∨ AtB Ab g) w (w5.setCell ⟨gk, F, none⟩ (.slice (some ⟨g5, 0, none⟩) (m + 1) c5)) := by
  have bk5 : Bk w5 gk bs := OC.apart bk ls.row k5 n2
  have ls5 := ls.push ne o hne k5 o5 q5
  have ou5 : Out (fun g => g = gk ∨ AtB Ab g) w w5 := (Out.refl _ w).grow k5 fun g hg => by
    cases Ab with
    | none => cases hg
    | some a =>
      simp only [Option.map_some, Option.some.injEq] at hg
      exact Or.inl (Or.inr ⟨a, rfl, hg⟩)
  refine ⟨bk5, OC.set bk5 F _, ?_, ou5.grow (gset w5 gk F _) (fun g hg => by cases hg; exact Or.inl (Or.inl rfl))⟩
  have key : ∀ {b e' sz' n' c' : Nat} {A' : Option Addr} {xs : List Value}, GC w5 b e' sz' A' n' c' xs → 39 ≠ e' → GC (w5.setCell ⟨gk, F, none⟩ (.slice (some ⟨g5, 0, none⟩) (m + 1) c5)) b e' sz' A' n' c' xs := by
    intro b e' sz' n' c' A' xs g ne
    rcases g.oc with ⟨rfl, rfl, rfl, rfl⟩ | ⟨g0, rfl, hb, o⟩
    · exact GC.nil _ _ _ _
    · exact GC.of (o.same (Sm.setCell _ _ _ (by rintro rfl; exact ne (OC.tyy bk5 o)))) hb
  exact ⟨key ls5.row n2, ls5.len, fun j' p cs' h1 h2 => key (ls5.each j' p cs' h1 h2) n1, ls5.inc⟩
/-- the other row of the same kind stays. -/
theorem LS.beside {w w' : World} {gk base base' e sz rt n c n' c' : Nat} {A A' : Option Addr} {ps ps' : List Slot} {css css' : List (List Value)} {bs : List Value} (lw : LS w base' e sz rt A' n' c' ps' css') (ls : LS w base e sz rt A n c ps css) (ne : e ≠ rt) (n1 : 39 ≠ e) (n2 : 39 ≠ rt) (bk : Bk w gk bs) (ap : ∀ g, AtB A g → ¬ AtB A' g) (ou : Out (fun g => g = gk ∨ AtB A g) w w') : LS w' base' e sz rt A' n' c' ps' css' :=
  lw.out ou (fun g q => by
    rintro (rfl | z)
    · exact n2 (ty_ne ⟨_, _, _, bk⟩ (lw.row.atb q))
    · exact ap g z q) (fun g q => by
    rintro (rfl | z)
    · exact n1 (ty_ne ⟨_, _, _, bk⟩ (lw.inb q))
    · exact ne (ty_ne (lw.inb q) (ls.row.atb z)))
/-- lists of a kind, and their copies. -/
structure Kp (w : World) (base e sz rt m : Nat) (r s : Row) (css dss : List (List Value)) : Prop where
  ls : LS w base e sz rt r.A m r.c r.ps css
  lw : LS w base e sz rt s.A m s.c s.ps dss
  ap : ∀ g, AtB r.A g → ¬ AtB s.A g
theorem Kp.no (w : World) (base e sz rt : Nat) : Kp w base e sz rt 0 Row.no Row.no [] [] := ⟨LS.nil _ _ _ _ _, LS.nil _ _ _ _ _, fun g q => by obtain ⟨a, e, _⟩ := q; cases e⟩
theorem Kp.below {w w' : World} {base e sz rt m : Nat} {r s : Row} {css dss : List (List Value)} (h : Kp w base e sz rt m r s css dss) (b : Below w.heap.size w w') : Kp w' base e sz rt m r s css dss := ⟨h.ls.below b, h.lw.below b, h.ap⟩
/-- where rows of another kind are written. -/
theorem Kp.apart {w w' : World} {gk base e sz rt m base' e' sz' rt' m' : Nat} {r s r' s' : Row} {css dss css' dss' : List (List Value)} {bs : List Value} (h : Kp w base e sz rt m r s css dss) (k : Kp w base' e' sz' rt' m' r' s' css' dss') (bk : Bk w gk bs) (n1 : 39 ≠ e) (n2 : 39 ≠ rt) (d1 : rt' ≠ e) (d2 : rt' ≠ rt) (ou : Out (Rws gk r'.A s'.A) w w') : Kp w' base e sz rt m r s css dss := by
  have key : ∀ {n c : Nat} {A : Option Addr} {ps : List Slot} {xss : List (List Value)}, LS w base e sz rt A n c ps xss → LS w' base e sz rt A n c ps xss := fun l =>
    l.out ou (fun g q => by
      rintro (rfl | z | z)
      · exact n2 (ty_ne ⟨_, _, _, bk⟩ (l.row.atb q))
      · exact d2 (ty_ne (k.ls.row.atb z) (l.row.atb q))
      · exact d2 (ty_ne (k.lw.row.atb z) (l.row.atb q))) (fun g q => by
      rintro (rfl | z | z)
      · exact n1 (ty_ne ⟨_, _, _, bk⟩ (l.inb q))
      · exact d1 (ty_ne (k.ls.row.atb z) (l.inb q))
      · exact d1 (ty_ne (k.lw.row.atb z) (l.inb q)))
  exact ⟨key h.ls, key h.lw, h.ap⟩
/-- what is in blocks of another type than a row's stays. -/
theorem Kp.keepOC {w w' : World} {gk base e sz rt m : Nat} {r s : Row} {css dss : List (List Value)} {bs : List Value} (h : Kp w base e sz rt m r s css dss) (bk : Bk w gk bs) (ou : Out (Rws gk r.A s.A) w w') {e' sz' g n c : Nat} {cs : List Value} (o : OC w e' sz' g n c cs) (n1 : 39 ≠ e') (n2 : rt ≠ e') : OC w' e' sz' g n c cs :=
  o.same (ou.sm o.lt (by
    rintro (rfl | z | z)
    · exact n1 (ty_ne ⟨_, _, _, bk⟩ ⟨_, _, _, o⟩)
    · exact n2 (ty_ne (h.ls.row.atb z) ⟨_, _, _, o⟩)
    · exact n2 (ty_ne (h.lw.row.atb z) ⟨_, _, _, o⟩)))
theorem Kp.keepGC {w w' : World} {gk base e sz rt m : Nat} {r s : Row} {css dss : List (List Value)} {bs : List Value} (h : Kp w base e sz rt m r s css dss) (bk : Bk w gk bs) (ou : Out (Rws gk r.A s.A) w w') {b e' sz' n c : Nat} {A : Option Addr} {cs : List Value} (o : GC w b e' sz' A n c cs) (n1 : 39 ≠ e') (n2 : rt ≠ e') : GC w' b e' sz' A n c cs := by
  rcases o.oc with ⟨rfl, rfl, rfl, rfl⟩ | ⟨g, rfl, hb, o'⟩
  · exact GC.nil _ _ _ _
  · exact GC.of (h.keepOC bk ou o' n1 n2) hb
theorem Out.rwsBelow {w w' : World} {gk B base e sz rt m : Nat} {r s : Row} {css dss : List (List Value)} (ou : Out (Rws gk r.A s.A) w w') (h : Kp w base e sz rt m r s css dss) (hB : B ≤ w.heap.size) (h1 : B ≤ gk) (h2 : B ≤ base) : Below B w w' :=
  ou.below hB fun g q => by
    rcases q with rfl | ⟨a, ea, rfl⟩ | ⟨a, ea, rfl⟩
    · exact h1
    · exact Nat.le_trans h2 (h.ls.row.lt a ea).2
    · exact Nat.le_trans h2 (h.lw.row.lt a ea).2
/-- behind the keeping of a list. -/
def KeptV (gk base e sz rt m F : Nat) (r s : Row) (css dss : List (List Value)) (A : Option Addr) (n c : Nat) (cs ds : List Value) (bs : List Value) (w : World) (w' : World) : Prop :=
  ∃ (r' s' : Row) (p : Slot), Bk w' gk ((bs.set F (r'.v (m + 1))).set (F + 1) (s'.v (m + 1))) ∧ Kp w' base e sz rt (m + 1) r' s' (css ++ [cs]) (dss ++ [ds]) ∧ r'.ps = r.ps ++ [(A, n, c)] ∧ s'.ps = s.ps ++ [p] ∧ (∀ a, p.1 = some a → w.heap.size ≤ a.block) ∧
    (∀ g, AtB r'.A g → AtB r.A g ∨ w.heap.size ≤ g) ∧ (∀ g, AtB s'.A g → AtB s.A g ∨ w.heap.size ≤ g) ∧ Out (Rws gk r.A s.A) w w'
theorem Out.rws1 {w w' : World} {gk : Nat} {A B : Option Addr} (h : Out (fun g => g = gk ∨ AtB A g) w w') : Out (Rws gk A B) w w' :=
  ⟨h.os, h.tape, h.output, h.size, fun k hk hd => h.block k hk (fun q => hd (q.elim Or.inl fun z => Or.inr (Or.inl z)))⟩
theorem Out.rws2 {w0 w w' : World} {gk : Nat} {A B : Option Addr} (h0 : Out (Rws gk A B) w0 w) (h : Out (fun g => g = gk ∨ AtB B g) w w') : Out (Rws gk A B) w0 w' :=
  h0.trans h fun _ q => q.elim (fun z => Or.inl (Or.inl z)) fun z => Or.inl (Or.inr (Or.inr z))
set_option maxRecDepth 100000 in
set_option maxHeartbeats 4000000 in
theorem Bytes_v (gk base m : Nat) (bs : List Value) (r s : Row) (xss : List (List UInt8)) (A : Option Addr) (n c : Nat) (xs : List UInt8) (w : World) (hk : Bk w gk bs) (e2 : bs[2]? = some (r.v m)) (e3 : bs[3]? = some (s.v m)) (hB : Kp w base 5 1 40 m r s (xss.map u8s) (xss.map u8s)) (o : GB w base A n c xs) (hne : ∀ p ∈ r.ps, ∀ a b, p.1 = some a → A = some b → a.block ≠ b.block) (hn : n ≤ 1000000) (hm : m ≤ 800000) (hb : base ≤ w.heap.size) :
    Calls Tryz.prog 19 #[.pointer (some ⟨gk, 0, none⟩), .slice A n c] w fun e w' => (∃ v, e = .returned v) ∧ KeptV gk base 5 1 40 m 2 r s (xss.map u8s) (xss.map u8s) A n c (u8s xs) (u8s xs) bs w w' := by
  obtain ⟨Ab, cb, ps⟩ := r
  obtain ⟨Aw, cw, pw⟩ := s
  obtain ⟨ls, lw, ap⟩ := hB
  simp only [Row.v] at *
  have HE2 := hideIt e2
  have HE3 := hideIt e3
  have HNE := hideIt hne
  have HAP := hideIt ap
  have HWL := hideIt lw.lt
  have HL := hideIt (show 2 < bs.length ∧ 3 < bs.length from ⟨(List.getElem?_eq_some_iff.1 e2).1, (List.getElem?_eq_some_iff.1 e3).1⟩)
  clear hne ap e2 e3
  go_enter Tryz.func19, Tryz.ntmps19
  have ba := below1 w (.cells #[.slice A n c] 40)
  have bk1 := hk.below ba
  have ls1 := ls.below ba
  have lw1 := lw.below ba
  have o1 := GB.below o ba
  have R1 := sv_cell w (A, n, c)
  have b1 := Nat.le_trans hb ba.size
  have c2 := OC.cell hk 2 _ HE2.out
  have c21 := OC.cell bk1 2 _ HE2.out
  go_upto_region 1 with (first
    | ((with_reducible refine wpMx_app rfl (.tmp 8) (.tmp 10) rfl base _ _ _ _ rfl ls1.row _ (A, n, c) rfl R1 (by omega) b1 ?_); intro g5 c5 w5 q5 Q5 o5 k5; have ZA : (w.alloc (.cells #[.slice A n c] 40)).heap.size = w.heap.size + 1 := (by simp); have st := row_push (F := 2) (by decide) (by decide) (by decide) bk1 ls1 o1 HNE.out k5 o5 q5; have cc5 := OC.cell st.1 2 _ HE2.out; have ff5 := OC.free st.1 2))
  obtain ⟨-, hk6, ls6, ou6⟩ := st
  have lw6 := lw1.beside ls1 (by decide) (by decide) (by decide) bk1 HAP.out ou6
  have o6 : GB (w5.setCell ⟨gk, 2, none⟩ (.slice (some ⟨g5, 0, none⟩) (m + 1) c5)) base A n c xs := Kp.keepGC (r := ⟨Ab, cb, ps⟩) (s := ⟨Aw, cw, pw⟩) ⟨ls1, lw1, HAP.out⟩ bk1 ou6.rws1 o1 (by decide) (by decide)
  have ou : Out (Rws gk Ab Aw) w (w5.setCell ⟨gk, 2, none⟩ (.slice (some ⟨g5, 0, none⟩) (m + 1) c5)) := (Out.of_below ba).trans ou6.rws1 (fun _ q => Or.inl q)
  have NEW5 : Hid (∀ g, AtB (some (⟨g5, 0, none⟩ : Addr)) g → AtB Ab g ∨ w.heap.size ≤ g) := hideIt fun g hg => by
    obtain ⟨a, ea, rfl⟩ := hg
    cases ea
    rcases Q5 with ⟨b, z, e2⟩ | z
    · exact Or.inl ⟨b, z, e2.symm⟩
    · exact Or.inr (by simp only; omega)
  have APN : Hid (∀ g, AtB Aw g → g5 ≠ g) := hideIt fun g hg e => by
    subst e
    have h1 : g5 < w.heap.size := by obtain ⟨a, ea, e⟩ := hg; have := (lw.row.lt a ea).1; omega
    rcases Q5 with ⟨a, z, e2⟩ | z
    · exact HAP.out g5 ⟨a, z, e2.symm⟩ hg
    · omega
  clear ba bk1 ls1 lw1 o1 R1 c2 c21 cc5 ff5 k5 o5 ou6 hk ls lw o
  have z6 := Nat.le_trans hb ou.size
  have HS6 : Hid ((bs.set 2 (.slice (some ⟨g5, 0, none⟩) (m + 1) c5))[3]? = some (.slice Aw m cw)) := hideIt (by rw [List.getElem?_set, if_neg (by decide)]; exact HE3.out)
  generalize w5.setCell ⟨gk, 2, none⟩ (.slice (some ⟨g5, 0, none⟩) (m + 1) c5) = w6 at hk6 ls6 lw6 o6 ou z6 ⊢
  have cw6 := OC.cell hk6 3 _ HS6.out
  have cw6d : w6.drew.cell? ⟨gk, 3, none⟩ = some (.slice Aw m cw) := cw6
  have bd := drew1 w6
  have od := GB.read (GB.below o6 bd)
  have zd : base ≤ w6.drew.heap.size := z6
  clear ZA Q5
  go_region_law
    (first
      | (refine stepMx_app rfl (.tmp 18) (.tmp 21) rfl base _ _ _ _ rfl lw8.row _ (some ⟨g7, 0, none⟩, n, c7) rfl R8 (by omega) z8 ?_; intro g9 c9 w9 q9 Q9 o9 k9; have st9 := row_push (F := 3) (by decide) (by decide) (by decide) bk8 lw8 S8 NE8.out k9 o9 q9; have cc9 := OC.cell st9.1 3 _ HS6.out; have ff9 := OC.free st9.1 3)
      | (refine step_of rfl ?_; go_simp; go_at_call 22; ((with_reducible refine (Bytes_calls _ _ _ _ _ od (by omega)).mono ?_); rintro en w7 ⟨g7, c7, rfl, s7, o7, x7⟩; have bd7 := blw_step bd x7; have cw7 := OC.cell (hk6.below bd7) 3 _ HS6.out; have ba8 := below1 w7 (.cells #[.slice (some ⟨g7, 0, none⟩) n c7] 40); have bd8 := blw_step bd7 ba8; have bk8 := hk6.below bd8; have ls8 := ls6.below bd8; have lw8 := lw6.below bd8; have S8 := GB.below (GB.of o7 (Nat.le_trans zd s7)) ba8; have R8 := sv_cell w7 (some ⟨g7, 0, none⟩, n, c7); have z8 := Nat.le_trans z6 bd8.size; have cw8 := OC.cell bk8 3 _ HS6.out; have cw8a : (w7.alloc (.cells #[.slice (some ⟨g7, 0, none⟩) n c7] 40)).cell? ⟨gk, 3, none⟩ = some (.slice Aw m cw) := cw8; have NE8 : Hid (∀ p ∈ pw, ∀ a b, p.1 = some a → (some ⟨g7, 0, none⟩ : Option Addr) = some b → a.block ≠ b.block) := hideIt (fun p hp a b ha hb' e => by cases hb'; have h1 := (HWL.out p hp a ha).1; have h2 := ou.size; have h3 : w6.heap.size ≤ g7 := s7; have h4 : a.block = g7 := e; omega))))
  all_goals
    obtain ⟨-, bkA, lsA, ouA⟩ := st9
    have z9 := bd8.size
    have ls9 := ls8.beside lw8 (by decide) (by decide) (by decide) bk8 (fun g q z => APN.out g q (by obtain ⟨a, ea, e⟩ := z; cases ea; exact e)) ouA
    have OU := (ou.step bd8).rws2 ouA
    have AP : Hid (∀ g, AtB (some (⟨g5, 0, none⟩ : Addr)) g → ¬ AtB (some (⟨g9, 0, none⟩ : Addr)) g) := hideIt (fun g h1 h2 => by
      obtain ⟨a, ha, ea⟩ := h1
      obtain ⟨b, hb', eb⟩ := h2
      cases ha
      cases hb'
      have e : g5 = g9 := ea.trans eb.symm
      rcases Q9 with ⟨b, z, e2⟩ | z
      · exact APN.out g9 ⟨b, z, e2.symm⟩ e
      · have := (ls8.row.lt ⟨g5, 0, none⟩ rfl).1
        have z' : (w7.alloc (.cells #[.slice (some ⟨g7, 0, none⟩) n c7] 40)).heap.size ≤ g9 := z
        simp only at this
        omega)
    have NEW9 : Hid (∀ g, AtB (some (⟨g9, 0, none⟩ : Addr)) g → AtB Aw g ∨ w.heap.size ≤ g) := hideIt fun g hg => by
      obtain ⟨a, ea, rfl⟩ := hg
      cases ea
      rcases Q9 with ⟨b, z, e2⟩ | z
      · exact Or.inl ⟨b, z, e2.symm⟩
      · have z' : (w7.alloc (.cells #[.slice (some ⟨g7, 0, none⟩) n c7] 40)).heap.size ≤ g9 := z
        have := ou.size
        exact Or.inr (by simp only; omega)
    have FIN : Hid (KeptV gk base 5 1 40 m 2 ⟨Ab, cb, ps⟩ ⟨Aw, cw, pw⟩ (xss.map u8s) (xss.map u8s) A n c (u8s xs) (u8s xs) bs w _) := hideIt ⟨⟨some ⟨g5, 0, none⟩, c5, ps ++ [(A, n, c)]⟩, ⟨some ⟨g9, 0, none⟩, c9, pw ++ [(some ⟨g7, 0, none⟩, n, c7)]⟩, (some ⟨g7, 0, none⟩, n, c7), bkA, ⟨ls9, lsA, AP.out⟩, rfl, rfl, (fun a ha => by cases ha; exact Nat.le_trans ou.size s7), NEW5.out, NEW9.out, OU⟩
    clear lsA ls9 bkA ouA bd8 bk8 ls8 lw8 S8 R8 z8 cw8 cw8a cc9 ff9 k9 o9
    go_wp2
    go_end0
    exact ⟨⟨_, rfl⟩, FIN.out⟩
end Go.Proofs.YtmeakhiiebeneaaGreatDoor
namespace Go.Proofs.YtmeakhiiebeneaaGreatDoor
open Go.RowKit

/-- from world w0 on some lists of bytes were kept. -/
structure Bv (w0 w : World) (gk base m : Nat) (r s r' s' : Row) (bs : List Value) (xss : List (List UInt8)) (add : List Slot) : Prop where
  bk : Bk w gk ((bs.set 2 (r'.v m)).set 3 (s'.v m))
  kp : Kp w base 5 1 40 m r' s' (xss.map u8s) (xss.map u8s)
  ps : r'.ps = r.ps ++ add
  n1 : ∀ g, AtB r'.A g → AtB r.A g ∨ w0.heap.size ≤ g
  n2 : ∀ g, AtB s'.A g → AtB s.A g ∨ w0.heap.size ≤ g
  ou : Out (Rws gk r.A s.A) w0 w
  n3 : ∀ p ∈ s'.ps, ∀ a, p.1 = some a → p ∈ s.ps ∨ w0.heap.size ≤ a.block
theorem Bv.start {w : World} {gk base m : Nat} {r s : Row} {bs : List Value} {xss : List (List UInt8)} (hk : Bk w gk bs) (e2 : bs[2]? = some (r.v m)) (e3 : bs[3]? = some (s.v m)) (h : Kp w base 5 1 40 m r s (xss.map u8s) (xss.map u8s)) : Bv w w gk base m r s r s bs xss [] :=
  ⟨by rw [set_self e2, set_self e3]; exact hk, h, by simp, fun _ q => Or.inl q, fun _ q => Or.inl q, Out.refl _ _, fun p hp _ _ => Or.inl hp⟩
theorem Bv.step {w0 w w' : World} {gk base m n c : Nat} {r s r1 s1 : Row} {bs bs1 : List Value} {xss : List (List UInt8)} {add : List Slot} {A : Option Addr} {xs : List UInt8} (h : Bv w0 w gk base m r s r1 s1 bs xss add) (hb : bs1 = (bs.set 2 (r1.v m)).set 3 (s1.v m)) (k : KeptV gk base 5 1 40 m 2 r1 s1 (xss.map u8s) (xss.map u8s) A n c (u8s xs) (u8s xs) bs1 w w') :
    ∃ r2 s2, Bv w0 w' gk base (m + 1) r s r2 s2 bs (xss ++ [xs]) (add ++ [(A, n, c)]) := by
  obtain ⟨r2, s2, p, bk, kp, e1, e2, e3, k1, k2, ou⟩ := k
  refine ⟨r2, s2, ?_, ?_, ?_, ?_, ?_, ?_, ?_⟩
  · rw [hb] at bk
    have : ((((bs.set 2 (r1.v m)).set 3 (s1.v m)).set 2 (r2.v (m + 1))).set (2 + 1) (s2.v (m + 1))) = (bs.set 2 (r2.v (m + 1))).set 3 (s2.v (m + 1)) := by
      rw [List.set_comm _ _ (show 3 ≠ 2 by decide), List.set_set, List.set_set]
    rw [this] at bk
    exact bk
  · have e : ∀ {l : List (List UInt8)}, l.map u8s ++ [u8s xs] = (l ++ [xs]).map u8s := fun {l} => by rw [List.map_append]; rfl
    rw [e] at kp
    exact kp
  · rw [e1, h.ps, List.append_assoc]
  · intro g q
    rcases k1 g q with z | z
    · exact h.n1 g z
    · exact Or.inr (Nat.le_trans h.ou.size z)
  · intro g q
    rcases k2 g q with z | z
    · exact h.n2 g z
    · exact Or.inr (Nat.le_trans h.ou.size z)
  · exact h.ou.trans ou fun g q => by
      rcases q with q | q | q
      · exact Or.inl (Or.inl q)
      · exact (h.n1 g q).imp (fun z => Or.inr (Or.inl z)) id
      · exact (h.n2 g q).imp (fun z => Or.inr (Or.inr z)) id
  · intro p' hp a ha
    rw [e2] at hp
    rcases List.mem_append.1 hp with q | q
    · exact h.n3 p' q a ha
    · rw [List.mem_singleton] at q; subst q
      exact Or.inr (Nat.le_trans h.ou.size (e3 a ha))
theorem KeptV.out {gk base e sz rt m F : Nat} {r s : Row} {css dss : List (List Value)} {A : Option Addr} {n c : Nat} {cs ds bs : List Value} {w w' : World} (k : KeptV gk base e sz rt m F r s css dss A n c cs ds bs w w') : Out (Rws gk r.A s.A) w w' := by
  obtain ⟨_, _, _, _, _, _, _, _, _, _, ou⟩ := k
  exact ou
theorem Bv.e2 {w0 w : World} {gk base m : Nat} {r s r' s' : Row} {bs : List Value} {xss : List (List UInt8)} {add : List Slot} (_h : Bv w0 w gk base m r s r' s' bs xss add) (h2 : 2 < bs.length) : ((bs.set 2 (r'.v m)).set 3 (s'.v m))[2]? = some (r'.v m) := by
  rw [List.getElem?_set_ne (by decide), List.getElem?_set_self h2]
theorem Bv.e3 {w0 w : World} {gk base m : Nat} {r s r' s' : Row} {bs : List Value} {xss : List (List UInt8)} {add : List Slot} (_h : Bv w0 w gk base m r s r' s' bs xss add) (h3 : 3 < bs.length) : ((bs.set 2 (r'.v m)).set 3 (s'.v m))[3]? = some (s'.v m) := by
  rw [List.getElem?_set_self (by rw [List.length_set]; exact h3)]
theorem Bv.eN {w0 w : World} {gk base m : Nat} {r s r' s' : Row} {bs : List Value} {xss : List (List UInt8)} {add : List Slot} (_h : Bv w0 w gk base m r s r' s' bs xss add) (F : Nat) (v : Value) (hF : bs[F]? = some v) (h2 : 2 ≠ F) (h3 : 3 ≠ F) : ((bs.set 2 (r'.v m)).set 3 (s'.v m))[F]? = some v := by
  rw [List.getElem?_set_ne h3, List.getElem?_set_ne h2, hF]
theorem GC.apart1 {w w' : World} {gk base e sz rt n c b e' sz' n' c' : Nat} {A A' : Option Addr} {ps : List Slot} {css : List (List Value)} {bs cs : List Value} (o : GC w b e' sz' A' n' c' cs) (k : LS w base e sz rt A n c ps css) (bk : Bk w gk bs) (ou : Out (fun g => g = gk ∨ AtB A g) w w') (n1 : 39 ≠ e') (n2 : rt ≠ e') : GC w' b e' sz' A' n' c' cs :=
  o.out ou fun g q => by
    rintro (rfl | z)
    · exact n1 (ty_ne ⟨_, _, _, bk⟩ (o.atb q))
    · exact n2 (ty_ne (k.row.atb z) (o.atb q))
theorem Kp.apart1 {w w' : World} {gk base base' e sz rt m n c e' sz' rt' : Nat} {r s : Row} {A : Option Addr} {ps : List Slot} {css dss xss : List (List Value)} {bs : List Value} (h : Kp w base e sz rt m r s css dss) (k : LS w base' e' sz' rt' A n c ps xss) (bk : Bk w gk bs) (n1 : 39 ≠ e) (n2 : 39 ≠ rt) (d1 : rt' ≠ e) (d2 : rt' ≠ rt) (ou : Out (fun g => g = gk ∨ AtB A g) w w') : Kp w' base e sz rt m r s css dss := by
  have key : ∀ {n c : Nat} {A : Option Addr} {ps : List Slot} {xss : List (List Value)}, LS w base e sz rt A n c ps xss → LS w' base e sz rt A n c ps xss := fun l =>
    ⟨l.row.apart1 k bk ou n2 d2, l.len, fun j p cs h1 h2 => (l.each j p cs h1 h2).apart1 k bk ou n1 d1, l.inc⟩
  exact ⟨key h.ls, key h.lw, h.ap⟩
theorem Out.mono {D D' : Nat → Prop} {w w' : World} (h : Out D w w') (hd : ∀ g, D g → D' g) : Out D' w w' := ⟨h.os, h.tape, h.output, h.size, fun k hk hn => h.block k hk fun q => hn (hd k q)⟩
def nilV : Value := .slice none 0 0
/-- no block of the one is a block of the other. -/
def Dj (F G : Nat → Prop) : Prop := ∀ g, F g → ¬ G g
theorem LS.blkDj {w : World} {base base' e e' sz sz' rt rt' n c n' c' : Nat} {A A' : Option Addr} {ps ps' : List Slot} {css css' : List (List Value)} (h : LS w base e sz rt A n c ps css) (k : LS w base' e' sz' rt' A' n' c' ps' css') (n1 : e ≠ e') (n2 : e ≠ rt') (n3 : rt ≠ e') (n4 : rt ≠ rt') : Dj (Blk A ps) (Blk A' ps') := by
  rintro g (q | q) (z | z)
  · exact n1 (ty_ne (h.inb q) (k.inb z))
  · exact n2 (ty_ne (h.inb q) (k.row.atb z))
  · exact n3 (ty_ne (h.row.atb q) (k.inb z))
  · exact n4 (ty_ne (h.row.atb q) (k.row.atb z))
theorem LS.outDj {w w' : World} {base e sz rt n c : Nat} {A : Option Addr} {ps : List Slot} {css : List (List Value)} {D : Nat → Prop} (h : LS w base e sz rt A n c ps css) (ou : Out D w w') (d : Dj (Blk A ps) D) : LS w' base e sz rt A n c ps css :=
  h.out ou (fun g q => d g (Or.inr q)) (fun g q => d g (Or.inl q))
end Go.Proofs.YtmeakhiiebeneaaGreatDoor
namespace Go.Proofs.YtmeakhiiebeneaaGreatDoor
open Go.RowKit

theorem Out.keepBelow {w w' : World} {gk base B : Nat} (h : Out (KeepD w gk base) w w') (hB : B ≤ w.heap.size) (h1 : B ≤ gk) (h2 : B ≤ base) : Below B w w' :=
  h.below hB fun g q => by
    rcases q with rfl | ⟨q, _⟩
    · exact h1
    · exact Nat.le_trans h2 q
def bookO : Obj := .cells #[.int .i64 0, .int .i64 0, .slice none 0 0, .slice none 0 0, .slice none 0 0, .slice none 0 0, .slice none 0 0, .slice none 0 0, .slice none 0 0, .slice none 0 0, .slice none 0 0, .slice none 0 0, .slice none 0 0, .slice none 0 0, .slice none 0 0, .slice none 0 0, .slice none 0 0, .slice none 0 0, .slice none 0 0, .slice none 0 0, .slice none 0 0, .slice none 0 0, .slice none 0 0, .slice none 0 0, .slice none 0 0, .slice none 0 0, .slice none 0 0, .slice none 0 0, .slice none 0 0, .slice none 0 0, .slice none 0 0, .slice none 0 0, .slice none 0 0, .slice none 0 0, .slice none 0 0, .slice none 0 0, .slice none 0 0, .slice none 0 0, .slice none 0 0, .slice none 0 0, .slice none 0 0] 39
theorem built_book : Tryz.prog.built 39 [] = some #[.int .i64 0, .int .i64 0, .slice none 0 0, .slice none 0 0, .slice none 0 0, .slice none 0 0, .slice none 0 0, .slice none 0 0, .slice none 0 0, .slice none 0 0, .slice none 0 0, .slice none 0 0, .slice none 0 0, .slice none 0 0, .slice none 0 0, .slice none 0 0, .slice none 0 0, .slice none 0 0, .slice none 0 0, .slice none 0 0, .slice none 0 0, .slice none 0 0, .slice none 0 0, .slice none 0 0, .slice none 0 0, .slice none 0 0, .slice none 0 0, .slice none 0 0, .slice none 0 0, .slice none 0 0, .slice none 0 0, .slice none 0 0, .slice none 0 0, .slice none 0 0, .slice none 0 0, .slice none 0 0, .slice none 0 0, .slice none 0 0, .slice none 0 0, .slice none 0 0, .slice none 0 0] := by kernel_rfl
theorem wp_book {o : Oper} {a : Act} {w : World} {K : Act → World → Prop} {Q : Exit → Act → World → Prop} (ho : o.op = .build 39 #[]) (h : K (a.put o.dst (.agg #[.int .i64 0, .int .i64 0, .slice none 0 0, .slice none 0 0, .slice none 0 0, .slice none 0 0, .slice none 0 0, .slice none 0 0, .slice none 0 0, .slice none 0 0, .slice none 0 0, .slice none 0 0, .slice none 0 0, .slice none 0 0, .slice none 0 0, .slice none 0 0, .slice none 0 0, .slice none 0 0, .slice none 0 0, .slice none 0 0, .slice none 0 0, .slice none 0 0, .slice none 0 0, .slice none 0 0, .slice none 0 0, .slice none 0 0, .slice none 0 0, .slice none 0 0, .slice none 0 0, .slice none 0 0, .slice none 0 0, .slice none 0 0, .slice none 0 0, .slice none 0 0, .slice none 0 0, .slice none 0 0, .slice none 0 0, .slice none 0 0, .slice none 0 0, .slice none 0 0, .slice none 0 0])) w) : o.wp Tryz.prog a w K Q := by
  have e : (((#[] : Array (Nat × Operand)).map fun (i, x) => (i, a.eval x)).toList) = [] := by simp
  refine wp_build 39 #[] ho (by rw [e, built_book]; rfl) ?_
  rw [e, built_book]
  exact h
theorem Bk.new (w : World) : Bk (w.alloc bookO) w.heap.size (bookCs 0 (.slice none 0 0) (.slice none 0 0) (.slice none 0 0)) :=
  OC.mk rfl _ (heap_alloc_new w _) (Nat.le_refl _) (by rw [maxLen_is]; omega) rfl rfl
theorem BookB.new (w : World) (base : Nat) : BookB (w.alloc bookO) w.heap.size base 0 none 0 none 0 [] [] [] :=
  ⟨Bk.new w, LS.nil _ _ _ _ _, LS.nil _ _ _ _ _, fun a b h => by cases h⟩
theorem Finish_k (gk base m cb cw : Nat) (Ab Aw : Option Addr) (ps pw : List Slot) (xss : List (List UInt8)) (w : World) (hB : BookB w gk base m Ab cb Aw cw ps pw xss) (hs : ∀ xs ∈ xss, xs.length ≤ 900000) (m1 : m ≤ 900000) (hb : base ≤ w.heap.size) :
    Calls Tryz.prog 20 #[.pointer (some ⟨gk, 0, none⟩)] w fun e w' => e = .returned (.bool true) ∧ Out (fun g => g = gk ∨ InPs ps g) w w' :=
  Finish_b gk base m cb cw Ab Aw ps _ xss w hB.bk hB.ls hB.lw.read.rm hs m1 hb
theorem InPs.base {w : World} {base e sz rt n c : Nat} {A : Option Addr} {ps : List Slot} {css : List (List Value)} (h : LS w base e sz rt A n c ps css) {g : Nat} (q : InPs ps g) : base ≤ g := by
  obtain ⟨p, hp, a, ha, rfl⟩ := q
  exact (h.lt p hp a ha).2
theorem LS.fresh {w : World} {base e sz rt n c : Nat} {A : Option Addr} {ps : List Slot} {css : List (List Value)} (h : LS w base e sz rt A n c ps css) {B : Option Addr} {lo : Nat} (hl : w.heap.size ≤ lo) (hB : ∀ b, B = some b → lo ≤ b.block) : ∀ p ∈ ps, ∀ a b, p.1 = some a → B = some b → a.block ≠ b.block := by
  intro p hp a b ha hb q
  have h1 := (h.lt p hp a ha).1
  have h2 := hB b hb
  omega
end Go.Proofs.YtmeakhiiebeneaaGreatDoor
