/- coppicekept.Book in general: thirteen kinds of lists, each told by its own contracts. Untouched, write, Holds, grow, Finish. -/
import Derived.Test.YtmeakhiiebeneaaGreatDoorN3
import Derived.Test.YtmeakhiiebeneaaGreatDoorKn
namespace Go.Proofs.YtmeakhiiebeneaaGreatDoor
open Go.RowKit

def fUs : Nat → FuncId
  | 0 => 116
  | 1 => 117
  | 2 => 118
  | 3 => 119
  | 4 => 120
  | 5 => 121
  | 6 => 122
  | 7 => 123
  | 8 => 124
  | 9 => 125
  | 10 => 126
  | 11 => 127
  | 12 => 128
  | _ => 0
def fWs : Nat → FuncId
  | 0 => 129
  | 1 => 130
  | 2 => 131
  | 3 => 132
  | 4 => 133
  | 5 => 134
  | 6 => 135
  | 7 => 136
  | 8 => 137
  | 9 => 138
  | 10 => 139
  | 11 => 140
  | 12 => 141
  | _ => 0
def fHs : Nat → FuncId
  | 0 => 142
  | 1 => 143
  | 2 => 144
  | 3 => 145
  | 4 => 146
  | 5 => 147
  | 6 => 148
  | 7 => 149
  | 8 => 150
  | 9 => 151
  | 10 => 152
  | 11 => 153
  | 12 => 154
  | _ => 0
def fGs : Nat → FuncId
  | 0 => 155
  | 1 => 156
  | 2 => 157
  | 3 => 158
  | 4 => 159
  | 5 => 160
  | 6 => 161
  | 7 => 162
  | 8 => 163
  | 9 => 164
  | 10 => 165
  | 11 => 166
  | 12 => 167
  | _ => 0
/-- a kind: its lists kept (U), written (P, ph = 0 not yet, ph = q + 1 with the mark q), grown n times (G). -/
structure KC (B gk base i id0 : Nat) where
  m : Nat
  v0 : Value
  v1 : Value
  U : World → Prop
  P : Nat → (Nat → Prop) → World → Prop
  G : Nat → Value → (Nat → Prop) → World → Prop
  ub : ∀ {w w' : World}, U w → Below w.heap.size w w' → U w'
  pf : ∀ {ph : Nat} {F E : Nat → Prop} {w w' : World}, P ph F w → Out E w w' → (∀ g, F g → ¬ E g) → (∀ g, E g → B ≤ g) → B ≤ w.heap.size → P ph F w'
  gf : ∀ {n : Nat} {v : Value} {F E : Nat → Prop} {w w' : World}, G n v F w → Out E w w' → (∀ g, F g → ¬ E g) → (∀ g, E g → B ≤ g) → B ≤ w.heap.size → G n v F w'
  pl : ∀ {ph : Nat} {F : Nat → Prop} {w : World}, P ph F w → ∀ g, F g → base ≤ g ∧ g < w.heap.size
  gl : ∀ {n : Nat} {v : Value} {F : Nat → Prop} {w : World}, G n v F w → ∀ g, F g → base ≤ g ∧ g < w.heap.size
  start : ∀ {F : Nat → Prop} {w : World}, P 2 F w → G 0 nilV F w
  un : ∀ (w : World) (bs : List Value), Bk w gk bs → bs[2 + 3 * i]? = some v0 → bs[3 + 3 * i]? = some v1 → U w → Calls Tryz.prog (fUs i) #[.pointer (some ⟨gk, 0, none⟩)] w fun e w' => e = .returned (.bool true) ∧ Below w.heap.size w w'
  wr : ∀ (w : World) (bs : List Value) (ph q : Nat) (F : Nat → Prop), q ≤ 1 → Bk w gk bs → B ≤ w.heap.size → B ≤ gk → bs[1]? = some (.int .i64 (q : Int)) → bs[2 + 3 * i]? = some v0 → P ph F w → Calls Tryz.prog (fWs i) #[.pointer (some ⟨gk, 0, none⟩), .int .i64 (id0 : Int)] w fun e w' => e = .returned (.int .i64 ((id0 + m : Nat) : Int)) ∧ Bk w' gk bs ∧ ∃ F', P (q + 1) F' w' ∧ (∀ g, F' g → F g ∨ w.heap.size ≤ g) ∧ Out F w w'
  ho : ∀ (w : World) (bs : List Value) (q : Nat) (F : Nat → Prop), q ≤ 1 → Bk w gk bs → B ≤ w.heap.size → bs[1]? = some (.int .i64 (q : Int)) → bs[2 + 3 * i]? = some v0 → bs[4 + 3 * i]? = some nilV → P (q + 1) F w → Calls Tryz.prog (fHs i) #[.pointer (some ⟨gk, 0, none⟩), .int .i64 (id0 : Int)] w fun e w' => e = .returned (.tuple #[.int .i64 ((id0 + m : Nat) : Int), .bool true]) ∧ Below w.heap.size w w'
  gr : ∀ (w : World) (bs : List Value) (n : Nat) (v : Value) (F : Nat → Prop), n < 70 → Bk w gk bs → B ≤ w.heap.size → B ≤ gk → bs[1]? = some (.int .i64 1) → bs[2 + 3 * i]? = some v0 → bs[4 + 3 * i]? = some v → G n v F w → Calls Tryz.prog (fGs i) #[.pointer (some ⟨gk, 0, none⟩), .int .i64 (id0 : Int), .int .i64 (n : Int)] w fun e w' => e = .returned (.int .i64 ((id0 + m : Nat) : Int)) ∧ ∃ v' F', Bk w' gk (bs.set (4 + 3 * i) v') ∧ G (n + 1) v' F' w' ∧ (∀ g, F' g → F g ∨ w.heap.size ≤ g) ∧ Out (fun g => g = gk ∨ F g) w w'
  hg : ∀ (w : World) (bs : List Value) (v : Value) (F : Nat → Prop), Bk w gk bs → B ≤ w.heap.size → bs[1]? = some (.int .i64 1) → bs[2 + 3 * i]? = some v0 → bs[4 + 3 * i]? = some v → G 70 v F w → Calls Tryz.prog (fHs i) #[.pointer (some ⟨gk, 0, none⟩), .int .i64 (id0 : Int)] w fun e w' => e = .returned (.tuple #[.int .i64 ((id0 + m : Nat) : Int), .bool true]) ∧ Below w.heap.size w w'
structure KF (B gk base : Nat) where
  S : Nat → Nat
  hbb : B ≤ base
  K : (i : Nat) → i < 13 → KC B gk base i (S i)
  s0 : S 0 = 0
  s1 : ∀ i (hi : i < 13), S (i + 1) = S i + (K i hi).m
def Rdb {B gk base : Nat} (K : KF B gk base) (p : Int) (vg : Nat → Value) (bs : List Value) : Prop :=
  bs[0]? = some (.int .i64 0) ∧ bs[1]? = some (.int .i64 p) ∧ ∀ i (hi : i < 13), bs[2 + 3 * i]? = some (K.K i hi).v0 ∧ bs[3 + 3 * i]? = some (K.K i hi).v1 ∧ bs[4 + 3 * i]? = some (vg i)
theorem Rdb.mark {B gk base : Nat} {K : KF B gk base} {p : Int} {vg : Nat → Value} {bs : List Value} (h : Rdb K p vg bs) (p' : Int) : Rdb K p' vg (bs.set 1 (.int .i64 p')) := by
  obtain ⟨h0, h1, h2⟩ := h
  refine ⟨by rw [List.getElem?_set_ne (by decide)]; exact h0, List.getElem?_set_self (List.getElem?_eq_some_iff.1 h1).1, fun i hi => ?_⟩
  obtain ⟨a, b, c⟩ := h2 i hi
  exact ⟨by rw [List.getElem?_set_ne (by omega)]; exact a, by rw [List.getElem?_set_ne (by omega)]; exact b, by rw [List.getElem?_set_ne (by omega)]; exact c⟩
def upd {α : Type} (f : Nat → α) (i : Nat) (x : α) : Nat → α := fun j => if j = i then x else f j
theorem Rdb.grow {B gk base : Nat} {K : KF B gk base} {p : Int} {vg : Nat → Value} {bs : List Value} (h : Rdb K p vg bs) (i : Nat) (hi : i < 13) (v : Value) : Rdb K p (upd vg i v) (bs.set (4 + 3 * i) v) := by
  obtain ⟨h0, h1, h2⟩ := h
  refine ⟨by rw [List.getElem?_set_ne (by omega)]; exact h0, by rw [List.getElem?_set_ne (by omega)]; exact h1, fun j hj => ?_⟩
  obtain ⟨a, b, c⟩ := h2 j hj
  refine ⟨by rw [List.getElem?_set_ne (by omega)]; exact a, by rw [List.getElem?_set_ne (by omega)]; exact b, ?_⟩
  unfold upd
  by_cases e : j = i
  · subst e
    rw [if_pos rfl]
    exact List.getElem?_set_self (List.getElem?_eq_some_iff.1 c).1
  · rw [if_neg e, List.getElem?_set_ne (by omega)]; exact c
def stg (n a : Nat) (b : Nat → Nat) : Nat → Nat := fun j => if j < n then a else b j
/-- all kinds: where they are in the writing. -/
def AllP {B gk base : Nat} (K : KF B gk base) (w0 : World) (q : Int) (ph : Nat → Nat) (w : World) : Prop :=
  Out (fun g => g = gk ∨ base ≤ g) w0 w ∧ ∃ (bs : List Value) (F : Nat → Nat → Prop), Bk w gk bs ∧ Rdb K q (fun _ => nilV) bs ∧ B ≤ w.heap.size ∧ (∀ i (hi : i < 13), (K.K i hi).P (ph i) (F i) w) ∧ (∀ i j, i < 13 → j < 13 → i ≠ j → Dj (F i) (F j)) ∧ (∀ i, i < 13 → ¬ F i gk)
theorem AllP.congr {B gk base : Nat} {K : KF B gk base} {w0 : World} {q : Int} {ph ph' : Nat → Nat} {w : World} (h : AllP K w0 q ph w) (e : ∀ i, i < 13 → ph i = ph' i) : AllP K w0 q ph' w := by
  obtain ⟨h0, bs, F, bk, rd, hb, p, d, n⟩ := h
  exact ⟨h0, bs, F, bk, rd, hb, fun i hi => e i hi ▸ p i hi, d, n⟩
theorem AllP.below {B gk base : Nat} {K : KF B gk base} {w0 : World} {q : Int} {ph : Nat → Nat} {w w' : World} (h : AllP K w0 q ph w) (b : Below w.heap.size w w') : AllP K w0 q ph w' := by
  obtain ⟨h0, bs, F, bk, rd, hb, p, d, n⟩ := h
  exact ⟨h0.step b, bs, F, bk.below b, rd, Nat.le_trans hb b.size, fun i hi => (K.K i hi).pf (p i hi) (Out.of_below (D := fun _ => False) b) (fun _ _ q => q) (fun _ q => q.elim) hb, d, n⟩
theorem AllP.c0 {B gk base : Nat} {K : KF B gk base} {w0 : World} {q : Int} {ph : Nat → Nat} {w : World} (h : AllP K w0 q ph w) : w.cell? ⟨gk, 0, none⟩ = some (.int .i64 0) := by
  obtain ⟨h0, bs, F, bk, rd, _⟩ := h
  exact OC.cell bk 0 _ rd.1
theorem AllP.c1 {B gk base : Nat} {K : KF B gk base} {w0 : World} {q : Int} {ph : Nat → Nat} {w : World} (h : AllP K w0 q ph w) : w.cell? ⟨gk, 1, none⟩ = some (.int .i64 q) := by
  obtain ⟨h0, bs, F, bk, rd, _⟩ := h
  exact OC.cell bk 1 _ rd.2.1
theorem AllP.mark {B gk base : Nat} {K : KF B gk base} {w0 : World} {q : Int} {ph : Nat → Nat} {w : World} (h : AllP K w0 q ph w) (hg : B ≤ gk) (q' : Int) : AllP K w0 q' ph (w.setCell ⟨gk, 1, none⟩ (.int .i64 q')) := by
  obtain ⟨h0, bs, F, bk, rd, hb, p, d, n⟩ := h
  have ou : Out (fun g => g = gk) w (w.setCell ⟨gk, 1, none⟩ (.int .i64 q')) := (Out.refl _ w).grow (gset w gk 1 _) (fun g hg => by cases hg; exact Or.inl rfl)
  exact ⟨h0.trans ou (fun g e => Or.inl (Or.inl e)), _, F, OC.set bk 1 _, rd.mark q', Nat.le_trans hb ou.size, fun i hi => (K.K i hi).pf (p i hi) ou (fun g z e => n i hi (e ▸ z)) (fun g e => by rw [e]; exact hg) hb, d, n⟩
theorem AllP.free1 {B gk base : Nat} {K : KF B gk base} {w0 : World} {q : Int} {ph : Nat → Nat} {w : World} (h : AllP K w0 q ph w) : w.frozen? ⟨gk, 1, none⟩ = false := by
  obtain ⟨h0, bs, F, bk, rd, _⟩ := h
  exact OC.free bk 1
theorem Dj.step {F G F' : Nat → Prop} {S : Nat} (h : Dj F G) (h1 : ∀ g, F' g → F g ∨ S ≤ g) (h2 : ∀ g, G g → g < S) : Dj F' G := fun g q z => by
  rcases h1 g q with a | a
  · exact h g a z
  · have := h2 g z; omega
theorem AllP.wr {B gk base : Nat} {K : KF B gk base} {w0 : World} {q : Nat} {ph : Nat → Nat} {w : World} (i : Nat) (hi : i < 13) (hq : q ≤ 1) (hg : B ≤ gk) (h : AllP K w0 (q : Int) (stg i (q + 1) ph) w) :
    Calls Tryz.prog (fWs i) #[.pointer (some ⟨gk, 0, none⟩), .int .i64 (K.S i : Int)] w fun e w' => e = .returned (.int .i64 (K.S (i + 1) : Int)) ∧ AllP K w0 (q : Int) (stg (i + 1) (q + 1) ph) w' := by
  obtain ⟨h0, bs, F, bk, rd, hb, p, d, n⟩ := h
  refine ((K.K i hi).wr w bs _ q (F i) hq bk hb hg rd.2.1 (rd.2.2 i hi).1 (p i hi)).mono ?_
  rintro e w' ⟨rfl, bk', F', p', s', ou⟩
  refine ⟨by rw [K.s1 i hi], h0.trans ou (fun g z => Or.inl (Or.inr ((K.K i hi).pl (p i hi) g z).1)), bs, upd F i F', bk', rd, Nat.le_trans hb ou.size, fun j hj => ?_, fun j k hj hk hjk => ?_, fun j hj => ?_⟩
  · unfold upd stg
    by_cases e : j = i
    · subst e
      rw [if_pos rfl, if_pos (by omega)]; exact p'
    · rw [if_neg e]
      have := (K.K j hj).pf (p j hj) ou (d j i hj hi e) (fun g z => Nat.le_trans K.hbb ((K.K i hi).pl (p i hi) g z).1) hb
      unfold stg at this
      by_cases z : j < i
      · rw [if_pos z] at this; rw [if_pos (by omega)]; exact this
      · rw [if_neg z] at this; rw [if_neg (by omega)]; exact this
  · unfold upd
    by_cases e1 : j = i
    · subst e1
      rw [if_pos rfl, if_neg (fun z => hjk z.symm)]
      exact (d j k hj hk hjk).step s' (fun g z => ((K.K k hk).pl (p k hk) g z).2)
    · rw [if_neg e1]
      by_cases e2 : k = i
      · subst e2
        rw [if_pos rfl]
        exact fun g a b => ((d k j hk hj (fun z => hjk z.symm)).step s' (fun g z => ((K.K j hj).pl (p j hj) g z).2)) g b a
      · rw [if_neg e2]; exact d j k hj hk hjk
  · unfold upd
    by_cases e : j = i
    · subst e
      rw [if_pos rfl]
      intro z
      rcases s' gk z with a | a
      · exact n j hj a
      · have := bk.lt; omega
    · rw [if_neg e]; exact n j hj
theorem AllP.ho {B gk base : Nat} {K : KF B gk base} {w0 : World} {q : Nat} {w : World} (i : Nat) (hi : i < 13) (hq : q ≤ 1) (h : AllP K w0 (q : Int) (fun _ => q + 1) w) :
    Calls Tryz.prog (fHs i) #[.pointer (some ⟨gk, 0, none⟩), .int .i64 (K.S i : Int)] w fun e w' => e = .returned (.tuple #[.int .i64 (K.S (i + 1) : Int), .bool true]) ∧ AllP K w0 (q : Int) (fun _ => q + 1) w' := by
  obtain ⟨h0, bs, F, bk, rd, hb, p, d, n⟩ := h
  refine ((K.K i hi).ho w bs q (F i) hq bk hb rd.2.1 (rd.2.2 i hi).1 (rd.2.2 i hi).2.2 (p i hi)).mono ?_
  rintro e w' ⟨rfl, b⟩
  exact ⟨by rw [K.s1 i hi], AllP.below ⟨h0, bs, F, bk, rd, hb, p, d, n⟩ b⟩
/-- all kinds: how often they have grown. -/
def AllG {B gk base : Nat} (K : KF B gk base) (w0 : World) (t : Nat → Nat) (w : World) : Prop :=
  Out (fun g => g = gk ∨ base ≤ g) w0 w ∧ ∃ (bs : List Value) (F : Nat → Nat → Prop) (vg : Nat → Value), Bk w gk bs ∧ Rdb K 1 vg bs ∧ B ≤ w.heap.size ∧ (∀ i (hi : i < 13), (K.K i hi).G (t i) (vg i) (F i) w) ∧ (∀ i j, i < 13 → j < 13 → i ≠ j → Dj (F i) (F j)) ∧ (∀ i, i < 13 → ¬ F i gk)
theorem AllG.congr {B gk base : Nat} {K : KF B gk base} {w0 : World} {t t' : Nat → Nat} {w : World} (h : AllG K w0 t w) (e : ∀ i, i < 13 → t i = t' i) : AllG K w0 t' w := by
  obtain ⟨h0, bs, F, vg, bk, rd, hb, p, d, n⟩ := h
  exact ⟨h0, bs, F, vg, bk, rd, hb, fun i hi => e i hi ▸ p i hi, d, n⟩
theorem AllG.start {B gk base : Nat} {K : KF B gk base} {w0 : World} {w : World} (h : AllP K w0 1 (fun _ => 2) w) : AllG K w0 (fun _ => 0) w := by
  obtain ⟨h0, bs, F, bk, rd, hb, p, d, n⟩ := h
  exact ⟨h0, bs, F, fun _ => nilV, bk, rd, hb, fun i hi => (K.K i hi).start (p i hi), d, n⟩
theorem AllG.below {B gk base : Nat} {K : KF B gk base} {w0 : World} {t : Nat → Nat} {w w' : World} (h : AllG K w0 t w) (b : Below w.heap.size w w') : AllG K w0 t w' := by
  obtain ⟨h0, bs, F, vg, bk, rd, hb, p, d, n⟩ := h
  exact ⟨h0.step b, bs, F, vg, bk.below b, rd, Nat.le_trans hb b.size, fun i hi => (K.K i hi).gf (p i hi) (Out.of_below (D := fun _ => False) b) (fun _ _ q => q) (fun _ q => q.elim) hb, d, n⟩
theorem AllG.c0 {B gk base : Nat} {K : KF B gk base} {w0 : World} {t : Nat → Nat} {w : World} (h : AllG K w0 t w) : w.cell? ⟨gk, 0, none⟩ = some (.int .i64 0) := by
  obtain ⟨h0, bs, F, vg, bk, rd, _⟩ := h
  exact OC.cell bk 0 _ rd.1
theorem AllG.gr {B gk base : Nat} {K : KF B gk base} {w0 : World} {n : Nat} {w : World} (i : Nat) (hi : i < 13) (hn : n < 70) (hg : B ≤ gk) (h : AllG K w0 (stg i (n + 1) (fun _ => n)) w) :
    Calls Tryz.prog (fGs i) #[.pointer (some ⟨gk, 0, none⟩), .int .i64 (K.S i : Int), .int .i64 (n : Int)] w fun e w' => e = .returned (.int .i64 (K.S (i + 1) : Int)) ∧ AllG K w0 (stg (i + 1) (n + 1) (fun _ => n)) w' := by
  obtain ⟨h0, bs, F, vg, bk, rd, hb, p, d, nn⟩ := h
  have pi := p i hi
  have et : stg i (n + 1) (fun _ => n) i = n := by unfold stg; rw [if_neg (by omega)]
  rw [et] at pi
  refine ((K.K i hi).gr w bs n (vg i) (F i) hn bk hb hg rd.2.1 (rd.2.2 i hi).1 (rd.2.2 i hi).2.2 pi).mono ?_
  rintro e w' ⟨rfl, v', F', bk', p', s', ou⟩
  refine ⟨by rw [K.s1 i hi], h0.trans ou (fun g z => by
    rcases z with rfl | z
    · exact Or.inl (Or.inl rfl)
    · exact Or.inl (Or.inr ((K.K i hi).gl pi g z).1)), bs.set (4 + 3 * i) v', upd F i F', upd vg i v', bk', rd.grow i hi v', Nat.le_trans hb ou.size, fun j hj => ?_, fun j k hj hk hjk => ?_, fun j hj => ?_⟩
  · unfold upd stg
    by_cases e : j = i
    · subst e
      rw [if_pos rfl, if_pos rfl, if_pos (by omega)]; exact p'
    · rw [if_neg e, if_neg e]
      have := (K.K j hj).gf (p j hj) ou (fun g z y => by
        rcases y with rfl | y
        · exact nn j hj z
        · exact d j i hj hi e g z y) (fun g z => by
        rcases z with rfl | z
        · exact hg
        · exact Nat.le_trans K.hbb ((K.K i hi).gl pi g z).1) hb
      unfold stg at this
      by_cases z : j < i
      · rw [if_pos z] at this; rw [if_pos (by omega)]; exact this
      · rw [if_neg z] at this; rw [if_neg (by omega)]; exact this
  · unfold upd
    by_cases e1 : j = i
    · subst e1
      rw [if_pos rfl, if_neg (fun z => hjk z.symm)]
      exact (d j k hj hk hjk).step s' (fun g z => ((K.K k hk).gl (p k hk) g z).2)
    · rw [if_neg e1]
      by_cases e2 : k = i
      · subst e2
        rw [if_pos rfl]
        exact fun g a b => ((d k j hk hj (fun z => hjk z.symm)).step s' (fun g z => ((K.K j hj).gl (p j hj) g z).2)) g b a
      · rw [if_neg e2]; exact d j k hj hk hjk
  · unfold upd
    by_cases e : j = i
    · subst e
      rw [if_pos rfl]
      intro z
      rcases s' gk z with a | a
      · exact nn j hj a
      · have := bk.lt; omega
    · rw [if_neg e]; exact nn j hj
theorem AllG.ho {B gk base : Nat} {K : KF B gk base} {w0 : World} {w : World} (i : Nat) (hi : i < 13) (h : AllG K w0 (fun _ => 70) w) :
    Calls Tryz.prog (fHs i) #[.pointer (some ⟨gk, 0, none⟩), .int .i64 (K.S i : Int)] w fun e w' => e = .returned (.tuple #[.int .i64 (K.S (i + 1) : Int), .bool true]) ∧ AllG K w0 (fun _ => 70) w' := by
  obtain ⟨h0, bs, F, vg, bk, rd, hb, p, d, n⟩ := h
  refine ((K.K i hi).hg w bs (vg i) (F i) bk hb rd.2.1 (rd.2.2 i hi).1 (rd.2.2 i hi).2.2 (p i hi)).mono ?_
  rintro e w' ⟨rfl, b⟩
  exact ⟨by rw [K.s1 i hi], AllG.below ⟨h0, bs, F, vg, bk, rd, hb, p, d, n⟩ b⟩
/-- all kinds: kept. -/
def AllU {B gk base : Nat} (K : KF B gk base) (w : World) : Prop := ∃ bs, Bk w gk bs ∧ Rdb K 0 (fun _ => nilV) bs ∧ ∀ i (hi : i < 13), (K.K i hi).U w
theorem AllU.below {B gk base : Nat} {K : KF B gk base} {w w' : World} (h : AllU K w) (b : Below w.heap.size w w') : AllU K w' := by
  obtain ⟨bs, bk, rd, p⟩ := h
  exact ⟨bs, bk.below b, rd, fun i hi => (K.K i hi).ub (p i hi) b⟩
theorem AllU.un {B gk base : Nat} {K : KF B gk base} {w : World} (i : Nat) (hi : i < 13) (h : AllU K w) :
    Calls Tryz.prog (fUs i) #[.pointer (some ⟨gk, 0, none⟩)] w fun e w' => e = .returned (.bool true) ∧ Below w.heap.size w w' := by
  obtain ⟨bs, bk, rd, p⟩ := h
  exact (K.K i hi).un w bs bk (rd.2.2 i hi).1 (rd.2.2 i hi).2.1 (p i hi)
set_option maxRecDepth 100000 in
set_option maxHeartbeats 4000000 in
theorem Untouched_G {B gk base : Nat} (K : KF B gk base) (w : World) (h : AllU K w) :
    Calls Tryz.prog 67 #[.pointer (some ⟨gk, 0, none⟩)] w fun e w' => e = .returned (.bool true) ∧ Below w.heap.size w w' := by
  have HA := hideIt h
  clear h
  go_enter Tryz.func67, Tryz.ntmps67
  have b0 : Hid (Below w.heap.size w w) := hideIt (Below.refl _ _)
  have C : Calls Tryz.prog 116 #[.pointer (some ⟨gk, 0, none⟩)] w fun e w' => e = .returned (.bool true) ∧ Below w.heap.size w w' := AllU.un 0 (by decide) (HA.out.below b0.out)
  go_upto_region 4 with (go_at_call 116; refine C.mono ?_; rintro en w1 ⟨rfl, x⟩)
  have b1 := hideIt (blw_step b0.out x)
  clear C x b0
  have C : Calls Tryz.prog 117 #[.pointer (some ⟨gk, 0, none⟩)] w1 fun e w' => e = .returned (.bool true) ∧ Below w1.heap.size w1 w' := AllU.un 1 (by decide) (HA.out.below b1.out)
  go_upto_region 6 with (go_at_call 117; refine C.mono ?_; rintro en w2 ⟨rfl, x⟩)
  have b2 := hideIt (blw_step b1.out x)
  clear C x b1
  have C : Calls Tryz.prog 118 #[.pointer (some ⟨gk, 0, none⟩)] w2 fun e w' => e = .returned (.bool true) ∧ Below w2.heap.size w2 w' := AllU.un 2 (by decide) (HA.out.below b2.out)
  go_upto_region 8 with (go_at_call 118; refine C.mono ?_; rintro en w3 ⟨rfl, x⟩)
  have b3 := hideIt (blw_step b2.out x)
  clear C x b2
  have C : Calls Tryz.prog 119 #[.pointer (some ⟨gk, 0, none⟩)] w3 fun e w' => e = .returned (.bool true) ∧ Below w3.heap.size w3 w' := AllU.un 3 (by decide) (HA.out.below b3.out)
  go_upto_region 10 with (go_at_call 119; refine C.mono ?_; rintro en w4 ⟨rfl, x⟩)
  have b4 := hideIt (blw_step b3.out x)
  clear C x b3
  have C : Calls Tryz.prog 120 #[.pointer (some ⟨gk, 0, none⟩)] w4 fun e w' => e = .returned (.bool true) ∧ Below w4.heap.size w4 w' := AllU.un 4 (by decide) (HA.out.below b4.out)
  go_upto_region 12 with (go_at_call 120; refine C.mono ?_; rintro en w5 ⟨rfl, x⟩)
  have b5 := hideIt (blw_step b4.out x)
  clear C x b4
  have C : Calls Tryz.prog 121 #[.pointer (some ⟨gk, 0, none⟩)] w5 fun e w' => e = .returned (.bool true) ∧ Below w5.heap.size w5 w' := AllU.un 5 (by decide) (HA.out.below b5.out)
  go_upto_region 14 with (go_at_call 121; refine C.mono ?_; rintro en w6 ⟨rfl, x⟩)
  have b6 := hideIt (blw_step b5.out x)
  clear C x b5
  have C : Calls Tryz.prog 122 #[.pointer (some ⟨gk, 0, none⟩)] w6 fun e w' => e = .returned (.bool true) ∧ Below w6.heap.size w6 w' := AllU.un 6 (by decide) (HA.out.below b6.out)
  go_upto_region 16 with (go_at_call 122; refine C.mono ?_; rintro en w7 ⟨rfl, x⟩)
  have b7 := hideIt (blw_step b6.out x)
  clear C x b6
  have C : Calls Tryz.prog 123 #[.pointer (some ⟨gk, 0, none⟩)] w7 fun e w' => e = .returned (.bool true) ∧ Below w7.heap.size w7 w' := AllU.un 7 (by decide) (HA.out.below b7.out)
  go_upto_region 18 with (go_at_call 123; refine C.mono ?_; rintro en w8 ⟨rfl, x⟩)
  have b8 := hideIt (blw_step b7.out x)
  clear C x b7
  have C : Calls Tryz.prog 124 #[.pointer (some ⟨gk, 0, none⟩)] w8 fun e w' => e = .returned (.bool true) ∧ Below w8.heap.size w8 w' := AllU.un 8 (by decide) (HA.out.below b8.out)
  go_upto_region 20 with (go_at_call 124; refine C.mono ?_; rintro en w9 ⟨rfl, x⟩)
  have b9 := hideIt (blw_step b8.out x)
  clear C x b8
  have C : Calls Tryz.prog 125 #[.pointer (some ⟨gk, 0, none⟩)] w9 fun e w' => e = .returned (.bool true) ∧ Below w9.heap.size w9 w' := AllU.un 9 (by decide) (HA.out.below b9.out)
  go_upto_region 22 with (go_at_call 125; refine C.mono ?_; rintro en w10 ⟨rfl, x⟩)
  have b10 := hideIt (blw_step b9.out x)
  clear C x b9
  have C : Calls Tryz.prog 126 #[.pointer (some ⟨gk, 0, none⟩)] w10 fun e w' => e = .returned (.bool true) ∧ Below w10.heap.size w10 w' := AllU.un 10 (by decide) (HA.out.below b10.out)
  go_upto_region 24 with (go_at_call 126; refine C.mono ?_; rintro en w11 ⟨rfl, x⟩)
  have b11 := hideIt (blw_step b10.out x)
  clear C x b10
  have C : Calls Tryz.prog 127 #[.pointer (some ⟨gk, 0, none⟩)] w11 fun e w' => e = .returned (.bool true) ∧ Below w11.heap.size w11 w' := AllU.un 11 (by decide) (HA.out.below b11.out)
  go_upto_region 26 with (go_at_call 127; refine C.mono ?_; rintro en w12 ⟨rfl, x⟩)
  have b12 := hideIt (blw_step b11.out x)
  clear C x b11
  have C : Calls Tryz.prog 128 #[.pointer (some ⟨gk, 0, none⟩)] w12 fun e w' => e = .returned (.bool true) ∧ Below w12.heap.size w12 w' := AllU.un 12 (by decide) (HA.out.below b12.out)
  go_upto_region 28 with (go_at_call 128; refine C.mono ?_; rintro en w13 ⟨rfl, x⟩)
  have b13 := hideIt (blw_step b12.out x)
  clear C x b12
  go_wp2
  go_ret
  exact ⟨rfl, b13.out⟩
set_option maxRecDepth 100000 in
set_option maxHeartbeats 4000000 in
theorem write_G {B gk base : Nat} (K : KF B gk base) (w0 : World) (q : Nat) (ph : Nat → Nat) (w : World) (hq : q ≤ 1) (hg : B ≤ gk) (h : AllP K w0 (q : Int) ph w) :
    Calls Tryz.prog 68 #[.pointer (some ⟨gk, 0, none⟩)] w fun e w' => (∃ v, e = .returned v) ∧ AllP K w0 (q : Int) (fun _ => q + 1) w' := by
  have c0 := h.c0
  have A0 := hideIt (AllP.congr (ph' := stg 0 (q + 1) ph) h (fun i _ => by unfold stg; rw [if_neg (by omega)]))
  have HQ := hideIt hq
  have HG := hideIt hg
  clear h hq hg
  go_enter Tryz.func68, Tryz.ntmps68
  go_upto_region 1 with fail
  clear c0
  have C : Calls Tryz.prog 129 #[.pointer (some ⟨gk, 0, none⟩), .int .i64 0] w fun e w' => e = .returned (.int .i64 (K.S 1 : Int)) ∧ AllP K w0 (q : Int) (stg 1 (q + 1) ph) w' := (by have z := AllP.wr 0 (by decide) HQ.out HG.out A0.out; rw [K.s0] at z; exact z)
  go_upto_region 2 with (go_at_call 129; refine C.mono ?_; rintro en w1 ⟨rfl, x⟩)
  have A1 := hideIt x
  clear C x A0
  have C : Calls Tryz.prog 130 #[.pointer (some ⟨gk, 0, none⟩), .int .i64 (K.S 1 : Int)] w1 fun e w' => e = .returned (.int .i64 (K.S 2 : Int)) ∧ AllP K w0 (q : Int) (stg 2 (q + 1) ph) w' := AllP.wr 1 (by decide) HQ.out HG.out A1.out
  go_upto_region 3 with (go_at_call 130; refine C.mono ?_; rintro en w2 ⟨rfl, x⟩)
  have A2 := hideIt x
  clear C x A1
  have C : Calls Tryz.prog 131 #[.pointer (some ⟨gk, 0, none⟩), .int .i64 (K.S 2 : Int)] w2 fun e w' => e = .returned (.int .i64 (K.S 3 : Int)) ∧ AllP K w0 (q : Int) (stg 3 (q + 1) ph) w' := AllP.wr 2 (by decide) HQ.out HG.out A2.out
  go_upto_region 4 with (go_at_call 131; refine C.mono ?_; rintro en w3 ⟨rfl, x⟩)
  have A3 := hideIt x
  clear C x A2
  have C : Calls Tryz.prog 132 #[.pointer (some ⟨gk, 0, none⟩), .int .i64 (K.S 3 : Int)] w3 fun e w' => e = .returned (.int .i64 (K.S 4 : Int)) ∧ AllP K w0 (q : Int) (stg 4 (q + 1) ph) w' := AllP.wr 3 (by decide) HQ.out HG.out A3.out
  go_upto_region 5 with (go_at_call 132; refine C.mono ?_; rintro en w4 ⟨rfl, x⟩)
  have A4 := hideIt x
  clear C x A3
  have C : Calls Tryz.prog 133 #[.pointer (some ⟨gk, 0, none⟩), .int .i64 (K.S 4 : Int)] w4 fun e w' => e = .returned (.int .i64 (K.S 5 : Int)) ∧ AllP K w0 (q : Int) (stg 5 (q + 1) ph) w' := AllP.wr 4 (by decide) HQ.out HG.out A4.out
  go_upto_region 6 with (go_at_call 133; refine C.mono ?_; rintro en w5 ⟨rfl, x⟩)
  have A5 := hideIt x
  clear C x A4
  have C : Calls Tryz.prog 134 #[.pointer (some ⟨gk, 0, none⟩), .int .i64 (K.S 5 : Int)] w5 fun e w' => e = .returned (.int .i64 (K.S 6 : Int)) ∧ AllP K w0 (q : Int) (stg 6 (q + 1) ph) w' := AllP.wr 5 (by decide) HQ.out HG.out A5.out
  go_upto_region 7 with (go_at_call 134; refine C.mono ?_; rintro en w6 ⟨rfl, x⟩)
  have A6 := hideIt x
  clear C x A5
  have C : Calls Tryz.prog 135 #[.pointer (some ⟨gk, 0, none⟩), .int .i64 (K.S 6 : Int)] w6 fun e w' => e = .returned (.int .i64 (K.S 7 : Int)) ∧ AllP K w0 (q : Int) (stg 7 (q + 1) ph) w' := AllP.wr 6 (by decide) HQ.out HG.out A6.out
  go_upto_region 8 with (go_at_call 135; refine C.mono ?_; rintro en w7 ⟨rfl, x⟩)
  have A7 := hideIt x
  clear C x A6
  have C : Calls Tryz.prog 136 #[.pointer (some ⟨gk, 0, none⟩), .int .i64 (K.S 7 : Int)] w7 fun e w' => e = .returned (.int .i64 (K.S 8 : Int)) ∧ AllP K w0 (q : Int) (stg 8 (q + 1) ph) w' := AllP.wr 7 (by decide) HQ.out HG.out A7.out
  go_upto_region 9 with (go_at_call 136; refine C.mono ?_; rintro en w8 ⟨rfl, x⟩)
  have A8 := hideIt x
  clear C x A7
  have C : Calls Tryz.prog 137 #[.pointer (some ⟨gk, 0, none⟩), .int .i64 (K.S 8 : Int)] w8 fun e w' => e = .returned (.int .i64 (K.S 9 : Int)) ∧ AllP K w0 (q : Int) (stg 9 (q + 1) ph) w' := AllP.wr 8 (by decide) HQ.out HG.out A8.out
  go_upto_region 10 with (go_at_call 137; refine C.mono ?_; rintro en w9 ⟨rfl, x⟩)
  have A9 := hideIt x
  clear C x A8
  have C : Calls Tryz.prog 138 #[.pointer (some ⟨gk, 0, none⟩), .int .i64 (K.S 9 : Int)] w9 fun e w' => e = .returned (.int .i64 (K.S 10 : Int)) ∧ AllP K w0 (q : Int) (stg 10 (q + 1) ph) w' := AllP.wr 9 (by decide) HQ.out HG.out A9.out
  go_upto_region 11 with (go_at_call 138; refine C.mono ?_; rintro en w10 ⟨rfl, x⟩)
  have A10 := hideIt x
  clear C x A9
  have C : Calls Tryz.prog 139 #[.pointer (some ⟨gk, 0, none⟩), .int .i64 (K.S 10 : Int)] w10 fun e w' => e = .returned (.int .i64 (K.S 11 : Int)) ∧ AllP K w0 (q : Int) (stg 11 (q + 1) ph) w' := AllP.wr 10 (by decide) HQ.out HG.out A10.out
  go_upto_region 12 with (go_at_call 139; refine C.mono ?_; rintro en w11 ⟨rfl, x⟩)
  have A11 := hideIt x
  clear C x A10
  have C : Calls Tryz.prog 140 #[.pointer (some ⟨gk, 0, none⟩), .int .i64 (K.S 11 : Int)] w11 fun e w' => e = .returned (.int .i64 (K.S 12 : Int)) ∧ AllP K w0 (q : Int) (stg 12 (q + 1) ph) w' := AllP.wr 11 (by decide) HQ.out HG.out A11.out
  go_upto_region 13 with (go_at_call 140; refine C.mono ?_; rintro en w12 ⟨rfl, x⟩)
  have A12 := hideIt x
  clear C x A11
  have C : Calls Tryz.prog 141 #[.pointer (some ⟨gk, 0, none⟩), .int .i64 (K.S 12 : Int)] w12 fun e w' => e = .returned (.int .i64 (K.S 13 : Int)) ∧ AllP K w0 (q : Int) (stg 13 (q + 1) ph) w' := AllP.wr 12 (by decide) HQ.out HG.out A12.out
  go_wp2_with (go_at_call 141; refine C.mono ?_; rintro en w13 ⟨rfl, x⟩)
  have A13 := hideIt x
  clear C x A12
  go_end0
  exact ⟨⟨_, rfl⟩, AllP.congr A13.out fun i hi => by unfold stg; rw [if_pos hi]⟩
set_option maxRecDepth 100000 in
set_option maxHeartbeats 4000000 in
theorem Holds_P {B gk base : Nat} (K : KF B gk base) (w0 : World) (q : Nat) (w : World) (hq : q ≤ 1) (h : AllP K w0 (q : Int) (fun _ => q + 1) w) :
    Calls Tryz.prog 69 #[.pointer (some ⟨gk, 0, none⟩)] w fun e w' => e = .returned (.bool true) ∧ AllP K w0 (q : Int) (fun _ => q + 1) w' := by
  have c0 := h.c0
  have A0 := hideIt h
  have HQ := hideIt hq
  clear h hq
  go_enter Tryz.func69, Tryz.ntmps69
  go_upto_region 4 with fail
  clear c0
  have C : Calls Tryz.prog 142 #[.pointer (some ⟨gk, 0, none⟩), .int .i64 0] w fun e w' => e = .returned (.tuple #[.int .i64 (K.S 1 : Int), .bool true]) ∧ AllP K w0 (q : Int) (fun _ => q + 1) w' := (by have z := AllP.ho 0 (by decide) HQ.out A0.out; rw [K.s0] at z; exact z)
  go_upto_region 5 with (go_at_call 142; refine C.mono ?_; rintro en w1 ⟨rfl, x⟩)
  have A1 := hideIt x
  clear C x A0
  have C : Calls Tryz.prog 143 #[.pointer (some ⟨gk, 0, none⟩), .int .i64 (K.S 1 : Int)] w1 fun e w' => e = .returned (.tuple #[.int .i64 (K.S 2 : Int), .bool true]) ∧ AllP K w0 (q : Int) (fun _ => q + 1) w' := AllP.ho 1 (by decide) HQ.out A1.out
  go_upto_region 7 with (go_at_call 143; refine C.mono ?_; rintro en w2 ⟨rfl, x⟩)
  have A2 := hideIt x
  clear C x A1
  have C : Calls Tryz.prog 144 #[.pointer (some ⟨gk, 0, none⟩), .int .i64 (K.S 2 : Int)] w2 fun e w' => e = .returned (.tuple #[.int .i64 (K.S 3 : Int), .bool true]) ∧ AllP K w0 (q : Int) (fun _ => q + 1) w' := AllP.ho 2 (by decide) HQ.out A2.out
  go_upto_region 9 with (go_at_call 144; refine C.mono ?_; rintro en w3 ⟨rfl, x⟩)
  have A3 := hideIt x
  clear C x A2
  have C : Calls Tryz.prog 145 #[.pointer (some ⟨gk, 0, none⟩), .int .i64 (K.S 3 : Int)] w3 fun e w' => e = .returned (.tuple #[.int .i64 (K.S 4 : Int), .bool true]) ∧ AllP K w0 (q : Int) (fun _ => q + 1) w' := AllP.ho 3 (by decide) HQ.out A3.out
  go_upto_region 11 with (go_at_call 145; refine C.mono ?_; rintro en w4 ⟨rfl, x⟩)
  have A4 := hideIt x
  clear C x A3
  have C : Calls Tryz.prog 146 #[.pointer (some ⟨gk, 0, none⟩), .int .i64 (K.S 4 : Int)] w4 fun e w' => e = .returned (.tuple #[.int .i64 (K.S 5 : Int), .bool true]) ∧ AllP K w0 (q : Int) (fun _ => q + 1) w' := AllP.ho 4 (by decide) HQ.out A4.out
  go_upto_region 13 with (go_at_call 146; refine C.mono ?_; rintro en w5 ⟨rfl, x⟩)
  have A5 := hideIt x
  clear C x A4
  have C : Calls Tryz.prog 147 #[.pointer (some ⟨gk, 0, none⟩), .int .i64 (K.S 5 : Int)] w5 fun e w' => e = .returned (.tuple #[.int .i64 (K.S 6 : Int), .bool true]) ∧ AllP K w0 (q : Int) (fun _ => q + 1) w' := AllP.ho 5 (by decide) HQ.out A5.out
  go_upto_region 15 with (go_at_call 147; refine C.mono ?_; rintro en w6 ⟨rfl, x⟩)
  have A6 := hideIt x
  clear C x A5
  have C : Calls Tryz.prog 148 #[.pointer (some ⟨gk, 0, none⟩), .int .i64 (K.S 6 : Int)] w6 fun e w' => e = .returned (.tuple #[.int .i64 (K.S 7 : Int), .bool true]) ∧ AllP K w0 (q : Int) (fun _ => q + 1) w' := AllP.ho 6 (by decide) HQ.out A6.out
  go_upto_region 17 with (go_at_call 148; refine C.mono ?_; rintro en w7 ⟨rfl, x⟩)
  have A7 := hideIt x
  clear C x A6
  have C : Calls Tryz.prog 149 #[.pointer (some ⟨gk, 0, none⟩), .int .i64 (K.S 7 : Int)] w7 fun e w' => e = .returned (.tuple #[.int .i64 (K.S 8 : Int), .bool true]) ∧ AllP K w0 (q : Int) (fun _ => q + 1) w' := AllP.ho 7 (by decide) HQ.out A7.out
  go_upto_region 19 with (go_at_call 149; refine C.mono ?_; rintro en w8 ⟨rfl, x⟩)
  have A8 := hideIt x
  clear C x A7
  have C : Calls Tryz.prog 150 #[.pointer (some ⟨gk, 0, none⟩), .int .i64 (K.S 8 : Int)] w8 fun e w' => e = .returned (.tuple #[.int .i64 (K.S 9 : Int), .bool true]) ∧ AllP K w0 (q : Int) (fun _ => q + 1) w' := AllP.ho 8 (by decide) HQ.out A8.out
  go_upto_region 21 with (go_at_call 150; refine C.mono ?_; rintro en w9 ⟨rfl, x⟩)
  have A9 := hideIt x
  clear C x A8
  have C : Calls Tryz.prog 151 #[.pointer (some ⟨gk, 0, none⟩), .int .i64 (K.S 9 : Int)] w9 fun e w' => e = .returned (.tuple #[.int .i64 (K.S 10 : Int), .bool true]) ∧ AllP K w0 (q : Int) (fun _ => q + 1) w' := AllP.ho 9 (by decide) HQ.out A9.out
  go_upto_region 23 with (go_at_call 151; refine C.mono ?_; rintro en w10 ⟨rfl, x⟩)
  have A10 := hideIt x
  clear C x A9
  have C : Calls Tryz.prog 152 #[.pointer (some ⟨gk, 0, none⟩), .int .i64 (K.S 10 : Int)] w10 fun e w' => e = .returned (.tuple #[.int .i64 (K.S 11 : Int), .bool true]) ∧ AllP K w0 (q : Int) (fun _ => q + 1) w' := AllP.ho 10 (by decide) HQ.out A10.out
  go_upto_region 25 with (go_at_call 152; refine C.mono ?_; rintro en w11 ⟨rfl, x⟩)
  have A11 := hideIt x
  clear C x A10
  have C : Calls Tryz.prog 153 #[.pointer (some ⟨gk, 0, none⟩), .int .i64 (K.S 11 : Int)] w11 fun e w' => e = .returned (.tuple #[.int .i64 (K.S 12 : Int), .bool true]) ∧ AllP K w0 (q : Int) (fun _ => q + 1) w' := AllP.ho 11 (by decide) HQ.out A11.out
  go_upto_region 27 with (go_at_call 153; refine C.mono ?_; rintro en w12 ⟨rfl, x⟩)
  have A12 := hideIt x
  clear C x A11
  have C : Calls Tryz.prog 154 #[.pointer (some ⟨gk, 0, none⟩), .int .i64 (K.S 12 : Int)] w12 fun e w' => e = .returned (.tuple #[.int .i64 (K.S 13 : Int), .bool true]) ∧ AllP K w0 (q : Int) (fun _ => q + 1) w' := AllP.ho 12 (by decide) HQ.out A12.out
  go_upto_region 29 with (go_at_call 154; refine C.mono ?_; rintro en w13 ⟨rfl, x⟩)
  have A13 := hideIt x
  clear C x A12
  go_wp2
  go_ret
  exact ⟨rfl, A13.out⟩
set_option maxRecDepth 100000 in
set_option maxHeartbeats 4000000 in
theorem Holds_G {B gk base : Nat} (K : KF B gk base) (w0 : World) (w : World) (h : AllG K w0 (fun _ => 70) w) :
    Calls Tryz.prog 69 #[.pointer (some ⟨gk, 0, none⟩)] w fun e w' => e = .returned (.bool true) ∧ AllG K w0 (fun _ => 70) w' := by
  have c0 := h.c0
  have A0 := hideIt h
  clear h
  go_enter Tryz.func69, Tryz.ntmps69
  go_upto_region 4 with fail
  clear c0
  have C : Calls Tryz.prog 142 #[.pointer (some ⟨gk, 0, none⟩), .int .i64 0] w fun e w' => e = .returned (.tuple #[.int .i64 (K.S 1 : Int), .bool true]) ∧ AllG K w0 (fun _ => 70) w' := (by have z := AllG.ho 0 (by decide) A0.out; rw [K.s0] at z; exact z)
  go_upto_region 5 with (go_at_call 142; refine C.mono ?_; rintro en w1 ⟨rfl, x⟩)
  have A1 := hideIt x
  clear C x A0
  have C : Calls Tryz.prog 143 #[.pointer (some ⟨gk, 0, none⟩), .int .i64 (K.S 1 : Int)] w1 fun e w' => e = .returned (.tuple #[.int .i64 (K.S 2 : Int), .bool true]) ∧ AllG K w0 (fun _ => 70) w' := AllG.ho 1 (by decide) A1.out
  go_upto_region 7 with (go_at_call 143; refine C.mono ?_; rintro en w2 ⟨rfl, x⟩)
  have A2 := hideIt x
  clear C x A1
  have C : Calls Tryz.prog 144 #[.pointer (some ⟨gk, 0, none⟩), .int .i64 (K.S 2 : Int)] w2 fun e w' => e = .returned (.tuple #[.int .i64 (K.S 3 : Int), .bool true]) ∧ AllG K w0 (fun _ => 70) w' := AllG.ho 2 (by decide) A2.out
  go_upto_region 9 with (go_at_call 144; refine C.mono ?_; rintro en w3 ⟨rfl, x⟩)
  have A3 := hideIt x
  clear C x A2
  have C : Calls Tryz.prog 145 #[.pointer (some ⟨gk, 0, none⟩), .int .i64 (K.S 3 : Int)] w3 fun e w' => e = .returned (.tuple #[.int .i64 (K.S 4 : Int), .bool true]) ∧ AllG K w0 (fun _ => 70) w' := AllG.ho 3 (by decide) A3.out
  go_upto_region 11 with (go_at_call 145; refine C.mono ?_; rintro en w4 ⟨rfl, x⟩)
  have A4 := hideIt x
  clear C x A3
  have C : Calls Tryz.prog 146 #[.pointer (some ⟨gk, 0, none⟩), .int .i64 (K.S 4 : Int)] w4 fun e w' => e = .returned (.tuple #[.int .i64 (K.S 5 : Int), .bool true]) ∧ AllG K w0 (fun _ => 70) w' := AllG.ho 4 (by decide) A4.out
  go_upto_region 13 with (go_at_call 146; refine C.mono ?_; rintro en w5 ⟨rfl, x⟩)
  have A5 := hideIt x
  clear C x A4
  have C : Calls Tryz.prog 147 #[.pointer (some ⟨gk, 0, none⟩), .int .i64 (K.S 5 : Int)] w5 fun e w' => e = .returned (.tuple #[.int .i64 (K.S 6 : Int), .bool true]) ∧ AllG K w0 (fun _ => 70) w' := AllG.ho 5 (by decide) A5.out
  go_upto_region 15 with (go_at_call 147; refine C.mono ?_; rintro en w6 ⟨rfl, x⟩)
  have A6 := hideIt x
  clear C x A5
  have C : Calls Tryz.prog 148 #[.pointer (some ⟨gk, 0, none⟩), .int .i64 (K.S 6 : Int)] w6 fun e w' => e = .returned (.tuple #[.int .i64 (K.S 7 : Int), .bool true]) ∧ AllG K w0 (fun _ => 70) w' := AllG.ho 6 (by decide) A6.out
  go_upto_region 17 with (go_at_call 148; refine C.mono ?_; rintro en w7 ⟨rfl, x⟩)
  have A7 := hideIt x
  clear C x A6
  have C : Calls Tryz.prog 149 #[.pointer (some ⟨gk, 0, none⟩), .int .i64 (K.S 7 : Int)] w7 fun e w' => e = .returned (.tuple #[.int .i64 (K.S 8 : Int), .bool true]) ∧ AllG K w0 (fun _ => 70) w' := AllG.ho 7 (by decide) A7.out
  go_upto_region 19 with (go_at_call 149; refine C.mono ?_; rintro en w8 ⟨rfl, x⟩)
  have A8 := hideIt x
  clear C x A7
  have C : Calls Tryz.prog 150 #[.pointer (some ⟨gk, 0, none⟩), .int .i64 (K.S 8 : Int)] w8 fun e w' => e = .returned (.tuple #[.int .i64 (K.S 9 : Int), .bool true]) ∧ AllG K w0 (fun _ => 70) w' := AllG.ho 8 (by decide) A8.out
  go_upto_region 21 with (go_at_call 150; refine C.mono ?_; rintro en w9 ⟨rfl, x⟩)
  have A9 := hideIt x
  clear C x A8
  have C : Calls Tryz.prog 151 #[.pointer (some ⟨gk, 0, none⟩), .int .i64 (K.S 9 : Int)] w9 fun e w' => e = .returned (.tuple #[.int .i64 (K.S 10 : Int), .bool true]) ∧ AllG K w0 (fun _ => 70) w' := AllG.ho 9 (by decide) A9.out
  go_upto_region 23 with (go_at_call 151; refine C.mono ?_; rintro en w10 ⟨rfl, x⟩)
  have A10 := hideIt x
  clear C x A9
  have C : Calls Tryz.prog 152 #[.pointer (some ⟨gk, 0, none⟩), .int .i64 (K.S 10 : Int)] w10 fun e w' => e = .returned (.tuple #[.int .i64 (K.S 11 : Int), .bool true]) ∧ AllG K w0 (fun _ => 70) w' := AllG.ho 10 (by decide) A10.out
  go_upto_region 25 with (go_at_call 152; refine C.mono ?_; rintro en w11 ⟨rfl, x⟩)
  have A11 := hideIt x
  clear C x A10
  have C : Calls Tryz.prog 153 #[.pointer (some ⟨gk, 0, none⟩), .int .i64 (K.S 11 : Int)] w11 fun e w' => e = .returned (.tuple #[.int .i64 (K.S 12 : Int), .bool true]) ∧ AllG K w0 (fun _ => 70) w' := AllG.ho 11 (by decide) A11.out
  go_upto_region 27 with (go_at_call 153; refine C.mono ?_; rintro en w12 ⟨rfl, x⟩)
  have A12 := hideIt x
  clear C x A11
  have C : Calls Tryz.prog 154 #[.pointer (some ⟨gk, 0, none⟩), .int .i64 (K.S 12 : Int)] w12 fun e w' => e = .returned (.tuple #[.int .i64 (K.S 13 : Int), .bool true]) ∧ AllG K w0 (fun _ => 70) w' := AllG.ho 12 (by decide) A12.out
  go_upto_region 29 with (go_at_call 154; refine C.mono ?_; rintro en w13 ⟨rfl, x⟩)
  have A13 := hideIt x
  clear C x A12
  go_wp2
  go_ret
  exact ⟨rfl, A13.out⟩
set_option maxRecDepth 100000 in
set_option maxHeartbeats 8000000 in
theorem grow_G {B gk base : Nat} (K : KF B gk base) (w0 : World) (w : World) (hg : B ≤ gk) (h : AllG K w0 (fun _ => 0) w) :
    Calls Tryz.prog 70 #[.pointer (some ⟨gk, 0, none⟩)] w fun e w' => (∃ v, e = .returned v) ∧ AllG K w0 (fun _ => 70) w' := by
  have H0 := hideIt h
  have HG := hideIt hg
  clear h hg
  go_enter Tryz.func70, Tryz.ntmps70
  go_wp2
  go_loopw [2] (fun tt wr => ∃ n : Nat, n ≤ 70 ∧ tt = .int .i64 (n : Int) ∧ Hid (AllG K w0 (fun _ => n) wr))
    (fun tt _ => 70 - (intOf tt).toNat)
  case atStart => exact ⟨0, by omega, rfl, H0⟩
  case round =>
    clear H0
    obtain ⟨n, hn, rfl, HS⟩ := hrel
    by_cases hlt : n < 70
    · have t1 : (n : Int) < 70 := by omega
      have c0 := HS.out.c0
      have HLT := hideIt hlt
      have A0 := hideIt (AllG.congr (t' := stg 0 (n + 1) (fun _ => n)) HS.out (fun i _ => by unfold stg; rw [if_neg (by omega)]))
      clear HS hlt
      go_upto_region 4 with fail
      clear c0
      have C : Calls Tryz.prog 155 #[.pointer (some ⟨gk, 0, none⟩), .int .i64 0, .int .i64 (n : Int)] wr fun e w' => e = .returned (.int .i64 (K.S 1 : Int)) ∧ AllG K w0 (stg 1 (n + 1) (fun _ => n)) w' := (by have z := AllG.gr 0 (by decide) HLT.out HG.out A0.out; rw [K.s0] at z; exact z)
      go_upto_region 5 with (go_at_call 155; refine C.mono ?_; rintro en w1 ⟨rfl, x⟩)
      have A1 := hideIt x
      clear C x A0
      have C : Calls Tryz.prog 156 #[.pointer (some ⟨gk, 0, none⟩), .int .i64 (K.S 1 : Int), .int .i64 (n : Int)] w1 fun e w' => e = .returned (.int .i64 (K.S 2 : Int)) ∧ AllG K w0 (stg 2 (n + 1) (fun _ => n)) w' := AllG.gr 1 (by decide) HLT.out HG.out A1.out
      go_upto_region 6 with (go_at_call 156; refine C.mono ?_; rintro en w2 ⟨rfl, x⟩)
      have A2 := hideIt x
      clear C x A1
      have C : Calls Tryz.prog 157 #[.pointer (some ⟨gk, 0, none⟩), .int .i64 (K.S 2 : Int), .int .i64 (n : Int)] w2 fun e w' => e = .returned (.int .i64 (K.S 3 : Int)) ∧ AllG K w0 (stg 3 (n + 1) (fun _ => n)) w' := AllG.gr 2 (by decide) HLT.out HG.out A2.out
      go_upto_region 7 with (go_at_call 157; refine C.mono ?_; rintro en w3 ⟨rfl, x⟩)
      have A3 := hideIt x
      clear C x A2
      have C : Calls Tryz.prog 158 #[.pointer (some ⟨gk, 0, none⟩), .int .i64 (K.S 3 : Int), .int .i64 (n : Int)] w3 fun e w' => e = .returned (.int .i64 (K.S 4 : Int)) ∧ AllG K w0 (stg 4 (n + 1) (fun _ => n)) w' := AllG.gr 3 (by decide) HLT.out HG.out A3.out
      go_upto_region 8 with (go_at_call 158; refine C.mono ?_; rintro en w4 ⟨rfl, x⟩)
      have A4 := hideIt x
      clear C x A3
      have C : Calls Tryz.prog 159 #[.pointer (some ⟨gk, 0, none⟩), .int .i64 (K.S 4 : Int), .int .i64 (n : Int)] w4 fun e w' => e = .returned (.int .i64 (K.S 5 : Int)) ∧ AllG K w0 (stg 5 (n + 1) (fun _ => n)) w' := AllG.gr 4 (by decide) HLT.out HG.out A4.out
      go_upto_region 9 with (go_at_call 159; refine C.mono ?_; rintro en w5 ⟨rfl, x⟩)
      have A5 := hideIt x
      clear C x A4
      have C : Calls Tryz.prog 160 #[.pointer (some ⟨gk, 0, none⟩), .int .i64 (K.S 5 : Int), .int .i64 (n : Int)] w5 fun e w' => e = .returned (.int .i64 (K.S 6 : Int)) ∧ AllG K w0 (stg 6 (n + 1) (fun _ => n)) w' := AllG.gr 5 (by decide) HLT.out HG.out A5.out
      go_upto_region 10 with (go_at_call 160; refine C.mono ?_; rintro en w6 ⟨rfl, x⟩)
      have A6 := hideIt x
      clear C x A5
      have C : Calls Tryz.prog 161 #[.pointer (some ⟨gk, 0, none⟩), .int .i64 (K.S 6 : Int), .int .i64 (n : Int)] w6 fun e w' => e = .returned (.int .i64 (K.S 7 : Int)) ∧ AllG K w0 (stg 7 (n + 1) (fun _ => n)) w' := AllG.gr 6 (by decide) HLT.out HG.out A6.out
      go_upto_region 11 with (go_at_call 161; refine C.mono ?_; rintro en w7 ⟨rfl, x⟩)
      have A7 := hideIt x
      clear C x A6
      have C : Calls Tryz.prog 162 #[.pointer (some ⟨gk, 0, none⟩), .int .i64 (K.S 7 : Int), .int .i64 (n : Int)] w7 fun e w' => e = .returned (.int .i64 (K.S 8 : Int)) ∧ AllG K w0 (stg 8 (n + 1) (fun _ => n)) w' := AllG.gr 7 (by decide) HLT.out HG.out A7.out
      go_upto_region 12 with (go_at_call 162; refine C.mono ?_; rintro en w8 ⟨rfl, x⟩)
      have A8 := hideIt x
      clear C x A7
      have C : Calls Tryz.prog 163 #[.pointer (some ⟨gk, 0, none⟩), .int .i64 (K.S 8 : Int), .int .i64 (n : Int)] w8 fun e w' => e = .returned (.int .i64 (K.S 9 : Int)) ∧ AllG K w0 (stg 9 (n + 1) (fun _ => n)) w' := AllG.gr 8 (by decide) HLT.out HG.out A8.out
      go_upto_region 13 with (go_at_call 163; refine C.mono ?_; rintro en w9 ⟨rfl, x⟩)
      have A9 := hideIt x
      clear C x A8
      have C : Calls Tryz.prog 164 #[.pointer (some ⟨gk, 0, none⟩), .int .i64 (K.S 9 : Int), .int .i64 (n : Int)] w9 fun e w' => e = .returned (.int .i64 (K.S 10 : Int)) ∧ AllG K w0 (stg 10 (n + 1) (fun _ => n)) w' := AllG.gr 9 (by decide) HLT.out HG.out A9.out
      go_upto_region 14 with (go_at_call 164; refine C.mono ?_; rintro en w10 ⟨rfl, x⟩)
      have A10 := hideIt x
      clear C x A9
      have C : Calls Tryz.prog 165 #[.pointer (some ⟨gk, 0, none⟩), .int .i64 (K.S 10 : Int), .int .i64 (n : Int)] w10 fun e w' => e = .returned (.int .i64 (K.S 11 : Int)) ∧ AllG K w0 (stg 11 (n + 1) (fun _ => n)) w' := AllG.gr 10 (by decide) HLT.out HG.out A10.out
      go_upto_region 15 with (go_at_call 165; refine C.mono ?_; rintro en w11 ⟨rfl, x⟩)
      have A11 := hideIt x
      clear C x A10
      have C : Calls Tryz.prog 166 #[.pointer (some ⟨gk, 0, none⟩), .int .i64 (K.S 11 : Int), .int .i64 (n : Int)] w11 fun e w' => e = .returned (.int .i64 (K.S 12 : Int)) ∧ AllG K w0 (stg 12 (n + 1) (fun _ => n)) w' := AllG.gr 11 (by decide) HLT.out HG.out A11.out
      go_upto_region 16 with (go_at_call 166; refine C.mono ?_; rintro en w12 ⟨rfl, x⟩)
      have A12 := hideIt x
      clear C x A11
      have C : Calls Tryz.prog 167 #[.pointer (some ⟨gk, 0, none⟩), .int .i64 (K.S 12 : Int), .int .i64 (n : Int)] w12 fun e w' => e = .returned (.int .i64 (K.S 13 : Int)) ∧ AllG K w0 (stg 13 (n + 1) (fun _ => n)) w' := AllG.gr 12 (by decide) HLT.out HG.out A12.out
      go_wp2_with (go_at_call 167; refine C.mono ?_; rintro en w13 ⟨rfl, x⟩)
      have A13 := hideIt x
      clear C x A12
      have GN : Hid (AllG K w0 (fun _ => n + 1) w13) := hideIt (AllG.congr A13.out fun i hi => by unfold stg; rw [if_pos hi])
      go_roundw
      case rel => exact ⟨n + 1, by have := HLT.out; omega, by go_num, GN⟩
      case measure => have := HLT.out; simp [intOf]; omega
    · obtain rfl : n = 70 := by omega
      go_wp2
      go_end0
      exact ⟨⟨_, rfl⟩, HS.out⟩
set_option maxRecDepth 100000 in
set_option maxHeartbeats 4000000 in
theorem Finish_G {B gk base : Nat} (K : KF B gk base) (w0 w : World) (hg : B ≤ gk) (h : AllU K w) (hp : AllP K w0 0 (fun _ => 0) w) :
    Calls Tryz.prog 20 #[.pointer (some ⟨gk, 0, none⟩)] w fun e w' => e = .returned (.bool true) ∧ Out (fun g => g = gk ∨ base ≤ g) w0 w' := by
  have UN := Untouched_G K w h
  have HP := hideIt hp
  have HG := hideIt hg
  clear h hp hg
  go_enter Tryz.func20, Tryz.ntmps20
  go_upto_region 2 with (go_at_call 67; refine UN.mono ?_; rintro en w1 ⟨rfl, x⟩)
  have WR := write_G K w0 0 _ w1 (by decide) HG.out (HP.out.below x)
  clear UN x HP
  go_upto_region 3 with (go_at_call 68; refine WR.mono ?_; rintro en w2 ⟨⟨v2, rfl⟩, x⟩)
  have HO := Holds_P K w0 0 w2 (by decide) x
  clear WR x
  go_upto_region 4 with (go_at_call 69; refine HO.mono ?_; rintro en w3 ⟨rfl, x⟩)
  have c1 : w3.cell? ⟨gk, 1, none⟩ = some (.int .i64 0) := x.c1
  have f1 := x.free1
  have HM := hideIt (x.mark HG.out 1)
  clear HO x
  go_upto_region 5 with fail
  clear c1 f1
  generalize w3.setCell ⟨gk, 1, none⟩ (.int .i64 1) = w4 at HM ⊢
  have WR := write_G K w0 1 _ w4 (by decide) HG.out HM.out
  clear HM
  go_upto_region 6 with (go_at_call 68; refine WR.mono ?_; rintro en w5 ⟨⟨v5, rfl⟩, x⟩)
  have HO := Holds_P K w0 1 w5 (by decide) x
  clear WR x
  go_upto_region 7 with (go_at_call 69; refine HO.mono ?_; rintro en w6 ⟨rfl, x⟩)
  have GR := grow_G K w0 w6 HG.out (AllG.start x)
  clear HO x
  go_upto_region 8 with (go_at_call 70; refine GR.mono ?_; rintro en w7 ⟨⟨v7, rfl⟩, x⟩)
  have HO := Holds_G K w0 w7 x
  clear GR x
  go_wp2_with (go_at_call 69; refine HO.mono ?_; rintro en w8 ⟨rfl, x⟩)
  go_ret
  exact ⟨rfl, x.1⟩
end Go.Proofs.YtmeakhiiebeneaaGreatDoor
