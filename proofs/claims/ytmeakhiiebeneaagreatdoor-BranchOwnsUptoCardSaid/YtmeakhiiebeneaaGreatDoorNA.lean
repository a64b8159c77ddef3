/- coppicekept.Book: Kids, whatever else the book holds. -/
import Derived.Test.YtmeakhiiebeneaaGreatDoorN3
import Derived.Test.YtmeakhiiebeneaaGreatDoorJDg
import Derived.Test.YtmeakhiiebeneaaGreatDoorPk
import Derived.Test.YtmeakhiiebeneaaGreatDoorN9
namespace Go.Proofs.YtmeakhiiebeneaaGreatDoor
open Go.RowKit

set_option maxRecDepth 100000 in
set_option maxHeartbeats 4000000 in
theorem Kids_v (gk base m : Nat) (bs : List Value) (r s : Row) (xss : List (List (Int × Int))) (A : Option Addr) (n c : Nat) (xs : List (Int × Int)) (w : World) (hk : Bk w gk bs) (e2 : bs[23]? = some (r.v m)) (e3 : bs[24]? = some (s.v m)) (hB : Kp w base 124 2 78 m r s (xss.map kidCells) (xss.map kidCells)) (o : GK w base A n c xs) (hne : ∀ p ∈ r.ps, ∀ a b, p.1 = some a → A = some b → a.block ≠ b.block) (hn : n ≤ 900000) (hm : m ≤ 800000) (hb : base ≤ w.heap.size) :
    Calls Tryz.prog 52 #[.pointer (some ⟨gk, 0, none⟩), .slice A n c] w fun e w' => (∃ v, e = .returned v) ∧ KeptV gk base 124 2 78 m 23 r s (xss.map kidCells) (xss.map kidCells) A n c (kidCells xs) (kidCells xs) bs w w' := by
  obtain ⟨Ab, cb, ps⟩ := r
  obtain ⟨Aw, cw, pw⟩ := s
  obtain ⟨ls, lw, ap⟩ := hB
  simp only [Row.v] at *
  have HE2 := hideIt e2
  have HE3 := hideIt e3
  have HNE := hideIt hne
  have HAP := hideIt ap
  have HWL := hideIt lw.lt
  have HL := hideIt (show 23 < bs.length ∧ 24 < bs.length from ⟨(List.getElem?_eq_some_iff.1 e2).1, (List.getElem?_eq_some_iff.1 e3).1⟩)
  clear hne ap e2 e3
  go_enter Tryz.func52, Tryz.ntmps52
  have ba := below1 w (.cells #[.slice A n c] 78)
  have bk1 := hk.below ba
  have ls1 := ls.below ba
  have lw1 := lw.below ba
  have o1 := GC.below o ba
  have R1 := svD_cell w (A, n, c)
  have b1 := Nat.le_trans hb ba.size
  have c2 := OC.cell hk 23 _ HE2.out
  have c21 := OC.cell bk1 23 _ HE2.out
  go_upto_region 1 with (first
    | ((with_reducible refine wpDx_app rfl (.tmp 8) (.tmp 10) rfl base _ _ _ _ rfl ls1.row _ (A, n, c) rfl R1 (by omega) b1 ?_); intro g5 c5 w5 q5 Q5 o5 k5; have ZA : (w.alloc (.cells #[.slice A n c] 78)).heap.size = w.heap.size + 1 := (by simp); have st := row_push (F := 23) (by decide) (by decide) (by decide) bk1 ls1 o1 HNE.out k5 o5 q5; have cc5 := OC.cell st.1 23 _ HE2.out; have ff5 := OC.free st.1 23))
  obtain ⟨-, hk6, ls6, ou6⟩ := st
  have lw6 := lw1.beside ls1 (by decide) (by decide) (by decide) bk1 HAP.out ou6
  have o6 : GK (w5.setCell ⟨gk, 23, none⟩ (.slice (some ⟨g5, 0, none⟩) (m + 1) c5)) base A n c xs := Kp.keepGC (r := ⟨Ab, cb, ps⟩) (s := ⟨Aw, cw, pw⟩) ⟨ls1, lw1, HAP.out⟩ bk1 ou6.rws1 o1 (by decide) (by decide)
  have ou : Out (Rws gk Ab Aw) w (w5.setCell ⟨gk, 23, none⟩ (.slice (some ⟨g5, 0, none⟩) (m + 1) c5)) := (Out.of_below ba).trans ou6.rws1 (fun _ q => Or.inl q)
  have NEW5 : Hid (∀ g, AtB (some (⟨g5, 0, none⟩ : Addr)) g → AtB Ab g ∨ w.heap.size ≤ g) := hideIt fun g hg => by
    obtain ⟨a, ea, rfl⟩ := hg
    cases ea
    rcases Q5 with ⟨b, z, e2⟩ | z
    · exact Or.inl ⟨b, z, e2.symm⟩
    · exact Or.inr (by simp only; omega)
  have APN : Hid (∀ g, AtB Aw g → g5 ≠ g) := hideIt fun g hg e => by
    subst e
    have h1 : g5 < w.heap.size := by obtain ⟨a, ea, e⟩ := hg; have := (lw.row.lt a ea).1; omega
    rcases Q5 with ⟨a, z, e2⟩ | z
    · exact HAP.out g5 ⟨a, z, e2.symm⟩ hg
    · omega
  clear ba bk1 ls1 lw1 o1 R1 c2 c21 cc5 ff5 k5 o5 ou6 hk ls lw o
  have z6 := Nat.le_trans hb ou.size
  have HS6 : Hid ((bs.set 23 (.slice (some ⟨g5, 0, none⟩) (m + 1) c5))[24]? = some (.slice Aw m cw)) := hideIt (by rw [List.getElem?_set, if_neg (by decide)]; exact HE3.out)
  generalize w5.setCell ⟨gk, 23, none⟩ (.slice (some ⟨g5, 0, none⟩) (m + 1) c5) = w6 at hk6 ls6 lw6 o6 ou z6 ⊢
  have cw6 := OC.cell hk6 24 _ HS6.out
  have cw6d : w6.drew.cell? ⟨gk, 24, none⟩ = some (.slice Aw m cw) := cw6
  have bd := drew1 w6
  have od : RK w6.drew A n c xs := GC.read (GC.below o6 bd)
  have zd : base ≤ w6.drew.heap.size := z6
  clear ZA Q5
  go_region_law
    (first
      | (refine stepDx_app rfl (.tmp 18) (.tmp 21) rfl base _ _ _ _ rfl lw8.row _ (A7, n, c7) rfl R8 (by omega) z8 ?_; intro g9 c9 w9 q9 Q9 o9 k9; have st9 := row_push (F := 24) (by decide) (by decide) (by decide) bk8 lw8 S8 NE8.out k9 o9 q9; have cc9 := OC.cell st9.1 24 _ HS6.out; have ff9 := OC.free st9.1 24)
      | (refine step_of rfl ?_; go_simp; go_at_call 101; ((with_reducible refine (Kids_calls _ _ _ _ _ od (by omega)).mono ?_); rintro en w7 ⟨A7, c7, rfl, o7, x7⟩; have bd7 := blw_step bd x7; have cw7 := OC.cell (hk6.below bd7) 24 _ HS6.out; have ba8 := below1 w7 (.cells #[.slice (A7) n c7] 78); have bd8 := blw_step bd7 ba8; have bk8 := hk6.below bd8; have ls8 := ls6.below bd8; have lw8 := lw6.below bd8; have S8 : GC _ base 124 2 A7 n c7 (kidCells xs) := GC.below (GC.lower o7 zd) ba8; have HA7 : Hid (∀ b, A7 = some b → w6.heap.size ≤ b.block) := hideIt (fun b hb' => (GC.lt o7 b hb').2); have R8 := svD_cell w7 (A7, n, c7); have z8 := Nat.le_trans z6 bd8.size; have cw8 := OC.cell bk8 24 _ HS6.out; have cw8a : (w7.alloc (.cells #[.slice (A7) n c7] 78)).cell? ⟨gk, 24, none⟩ = some (.slice Aw m cw) := cw8; have NE8 : Hid (∀ p ∈ pw, ∀ a b, p.1 = some a → A7 = some b → a.block ≠ b.block) := hideIt (fun p hp a b ha hb' e => by have h1 := (HWL.out p hp a ha).1; have h2 := ou.size; have h3 := HA7.out b hb'; omega))))
  all_goals
    obtain ⟨-, bkA, lsA, ouA⟩ := st9
    have z9 := bd8.size
    have ls9 := ls8.beside lw8 (by decide) (by decide) (by decide) bk8 (fun g q z => APN.out g q (by obtain ⟨a, ea, e⟩ := z; cases ea; exact e)) ouA
    have OU := (ou.step bd8).rws2 ouA
    have AP : Hid (∀ g, AtB (some (⟨g5, 0, none⟩ : Addr)) g → ¬ AtB (some (⟨g9, 0, none⟩ : Addr)) g) := hideIt (fun g h1 h2 => by
      obtain ⟨a, ha, ea⟩ := h1
      obtain ⟨b, hb', eb⟩ := h2
      cases ha
      cases hb'
      have e : g5 = g9 := ea.trans eb.symm
      rcases Q9 with ⟨b, z, e2⟩ | z
      · exact APN.out g9 ⟨b, z, e2.symm⟩ e
      · have := (ls8.row.lt ⟨g5, 0, none⟩ rfl).1
        have z' : (w7.alloc (.cells #[.slice (A7) n c7] 78)).heap.size ≤ g9 := z
        simp only at this
        omega)
    have NEW9 : Hid (∀ g, AtB (some (⟨g9, 0, none⟩ : Addr)) g → AtB Aw g ∨ w.heap.size ≤ g) := hideIt fun g hg => by
      obtain ⟨a, ea, rfl⟩ := hg
      cases ea
      rcases Q9 with ⟨b, z, e2⟩ | z
      · exact Or.inl ⟨b, z, e2.symm⟩
      · have z' : (w7.alloc (.cells #[.slice (A7) n c7] 78)).heap.size ≤ g9 := z
        have := ou.size
        exact Or.inr (by simp only; omega)
    have FIN : Hid (KeptV gk base 124 2 78 m 23 ⟨Ab, cb, ps⟩ ⟨Aw, cw, pw⟩ (xss.map kidCells) (xss.map kidCells) A n c (kidCells xs) (kidCells xs) bs w _) := hideIt ⟨⟨some ⟨g5, 0, none⟩, c5, ps ++ [(A, n, c)]⟩, ⟨some ⟨g9, 0, none⟩, c9, pw ++ [(A7, n, c7)]⟩, (A7, n, c7), bkA, ⟨ls9, lsA, AP.out⟩, rfl, rfl, (fun a ha => Nat.le_trans ou.size (HA7.out a ha)), NEW5.out, NEW9.out, OU⟩
    clear lsA ls9 bkA ouA bd8 bk8 ls8 lw8 S8 R8 z8 cw8 cw8a cc9 ff9 k9 o9
    go_wp2
    go_end0
    exact ⟨⟨_, rfl⟩, FIN.out⟩
end Go.Proofs.YtmeakhiiebeneaaGreatDoor
namespace Go.Proofs.YtmeakhiiebeneaaGreatDoor
open Go.RowKit

/-- what the book holds. -/
structure Ce where
  mb : Nat
  mi : Nat
  ml : Nat
  r : Row
  s : Row
  a : Row
  b : Row
  t : Row
  u : Row
  xss : List (List UInt8)
  iss : List (List (Int × Int))
  pss : List (List Slot)
  qss : List (List Slot)
  xsss : List (List (List UInt8))
def Ce.cells (k : Ce) : List Value := bookD (k.r.v k.mb) (k.s.v k.mb) (k.t.v k.ml) (k.u.v k.ml) (k.a.v k.mi) (k.b.v k.mi)
def Ce.no : Ce := ⟨0, 0, 0, Row.no, Row.no, Row.no, Row.no, Row.no, Row.no, [], [], [], [], []⟩
/-- the book; what stands below S and is not the book is as at wS. -/
structure Ew (w0 wS w : World) (S gk : Nat) (k : Ce) : Prop where
  bk : Bk w gk k.cells
  kc : Ke w S k.mb k.mi k.ml k.r k.s k.a k.b k.t k.u k.xss k.iss k.pss k.qss k.xsss
  gs : gk < S
  g0 : w0.heap.size ≤ gk
  sS : wS.heap.size = S
  b0 : Below w0.heap.size w0 wS
  oS : Out (fun g => g = gk ∨ S ≤ g) wS w
  tb : Tb w0.heap.size w
  l1 : ∀ xs ∈ k.xss, xs.length ≤ 900000
  l2 : ∀ xs ∈ k.iss, xs.length ≤ 900000
  l3 : ∀ ps ∈ k.pss, ps.length ≤ 900000
variable {w0 wS w w' : World} {S gk : Nat} {k : Ce}
theorem Ew.zs (h : Ew w0 wS w S gk k) : S ≤ w.heap.size := by have := h.oS.size; rw [h.sS] at this; exact this
theorem Ew.s0 (h : Ew w0 wS w S gk k) : w0.heap.size ≤ S := Nat.le_trans h.g0 (Nat.le_of_lt h.gs)
theorem Ew.bb (h : Ew w0 wS w S gk k) : Below w0.heap.size w0 w :=
  h.b0.trans (h.oS.below h.b0.size fun g q => by
    rcases q with rfl | q
    · exact h.g0
    · exact Nat.le_trans h.s0 q)
theorem Ew.below (h : Ew w0 wS w S gk k) (x : Below w.heap.size w w') : Ew w0 wS w' S gk k :=
  ⟨h.bk.below x, h.kc.below x, h.gs, h.g0, h.sS, h.b0, h.oS.step x, h.tb.below h.bb.size x, h.l1, h.l2, h.l3⟩
/-- what stood below S is as it was. -/
theorem Ew.sm (h : Ew w0 wS w S gk k) {g : Nat} (h1 : g < S) (h2 : g ≠ gk) : Sm wS w g := h.oS.sm (by rw [h.sS]; exact h1) (by
  rintro (e | e)
  · exact h2 e
  · omega)
def Rwe (gk : Nat) (k : Ce) (g : Nat) : Prop := g = gk ∨ (AtB k.r.A g ∨ AtB k.s.A g) ∨ (AtB k.a.A g ∨ AtB k.b.A g) ∨ (AtB k.t.A g ∨ AtB k.u.A g)
theorem Ew.keepGC (h : Ew w0 wS w S gk k) (ou : Out (Rwe gk k) w w') {b e sz n c : Nat} {A : Option Addr} {cs : List Value} (o : GC w b e sz A n c cs) (n0 : 39 ≠ e) (n1 : 40 ≠ e) (n2 : 78 ≠ e) (n3 : 25 ≠ e) : GC w' b e sz A n c cs :=
  o.out ou fun g q => by
    rintro (rfl | (z | z) | (z | z) | z | z)
    · exact n0 (ty_ne ⟨_, _, _, h.bk⟩ (o.atb q))
    · exact n1 (ty_ne (h.kc.kb.ls.row.atb z) (o.atb q))
    · exact n1 (ty_ne (h.kc.kb.lw.row.atb z) (o.atb q))
    · exact n2 (ty_ne (h.kc.ki.ls.row.atb z) (o.atb q))
    · exact n2 (ty_ne (h.kc.ki.lw.row.atb z) (o.atb q))
    · exact n3 (ty_ne (h.kc.kl.kp.ls.row.atb z) (o.atb q))
    · exact n3 (ty_ne (h.kc.kl.kp.lw.row.atb z) (o.atb q))
theorem Ew.outS (h : Ew w0 wS w S gk k) (ou : Out (Rwe gk k) w w') : Out (fun g => g = gk ∨ S ≤ g) w w' :=
  ou.mono fun g q => by
    rcases q with rfl | (⟨a, ea, rfl⟩ | ⟨a, ea, rfl⟩) | (⟨a, ea, rfl⟩ | ⟨a, ea, rfl⟩) | ⟨a, ea, rfl⟩ | ⟨a, ea, rfl⟩
    · exact Or.inl rfl
    · exact Or.inr (h.kc.kb.ls.row.lt a ea).2
    · exact Or.inr (h.kc.kb.lw.row.lt a ea).2
    · exact Or.inr (h.kc.ki.ls.row.lt a ea).2
    · exact Or.inr (h.kc.ki.lw.row.lt a ea).2
    · exact Or.inr (h.kc.kl.kp.ls.row.lt a ea).2
    · exact Or.inr (h.kc.kl.kp.lw.row.lt a ea).2
theorem Ew.move {k' : Ce} (h : Ew w0 wS w S gk k) (ou : Out (fun g => g = gk ∨ S ≤ g) w w') (bk : Bk w' gk k'.cells) (kc : Ke w' S k'.mb k'.mi k'.ml k'.r k'.s k'.a k'.b k'.t k'.u k'.xss k'.iss k'.pss k'.qss k'.xsss) (l1 : ∀ xs ∈ k'.xss, xs.length ≤ 900000) (l2 : ∀ xs ∈ k'.iss, xs.length ≤ 900000) (l3 : ∀ ps ∈ k'.pss, ps.length ≤ 900000) : Ew w0 wS w' S gk k' :=
  ⟨bk, kc, h.gs, h.g0, h.sS, h.b0, h.oS.trans ou (fun g q => Or.inl q), h.tb.next (ou.below h.bb.size fun g q => by
    rcases q with rfl | q
    · exact h.g0
    · exact Nat.le_trans h.s0 q), l1, l2, l3⟩
theorem mem_snoc {α : Type} {P : α → Prop} {l : List α} {x : α} (h : ∀ y ∈ l, P y) (hx : P x) : ∀ y ∈ l ++ [x], P y := fun y hy => by
  rcases List.mem_append.1 hy with q | q
  · exact h y q
  · rw [List.mem_singleton] at q; rw [q]; exact hx
/-- no list of bytes in the book lies in block g. -/
def NoP (ps : List Slot) (g : Nat) : Prop := ∀ p ∈ ps, ∀ a, p.1 = some a → a.block ≠ g
structure Aw (k : Ce) (g : Nat) : Prop where
  r : NoP k.r.ps g
  s : NoP k.s.ps g
  p : ∀ ps ∈ k.pss, NoP ps g
  q : ∀ ps ∈ k.qss, NoP ps g
/-- behind Bytes. -/
theorem Ew.bytes (h : Ew w0 wS w S gk k) {A : Option Addr} {n c : Nat} {ys : List UInt8} (hn : ys.length ≤ 900000) (q : KeptV gk S 5 1 40 k.mb 2 k.r k.s (k.xss.map u8s) (k.xss.map u8s) A n c (u8s ys) (u8s ys) k.cells w w') :
    ∃ k', Ew w0 wS w' S gk k' ∧ Out (Rwe gk k) w w' ∧ k'.mb = k.mb + 1 ∧ k'.mi = k.mi ∧ k'.ml = k.ml ∧ k'.r.ps = k.r.ps ++ [(A, n, c)] ∧ k'.a.ps = k.a.ps ∧ k'.t.ps = k.t.ps ∧ (∀ g, Aw k g → g < w.heap.size → (∀ a, A = some a → a.block ≠ g) → Aw k' g) ∧ (∀ g, AtB k'.r.A g → AtB k.r.A g ∨ w.heap.size ≤ g) ∧ (∀ g, AtB k'.s.A g → AtB k.s.A g ∨ w.heap.size ≤ g) := by
  obtain ⟨r', s', p, bk, kp, e1, e2, e3, y1, y2, ou⟩ := q
  have ou' : Out (Rwe gk k) w w' := ou.mono fun g z => by
    rcases z with z | z | z
    · exact Or.inl z
    · exact Or.inr (Or.inl (Or.inl z))
    · exact Or.inr (Or.inl (Or.inr z))
  have e : k.xss.map u8s ++ [u8s ys] = (k.xss ++ [ys]).map u8s := by rw [List.map_append]; rfl
  rw [e] at kp
  refine ⟨⟨k.mb + 1, k.mi, k.ml, r', s', k.a, k.b, k.t, k.u, k.xss ++ [ys], k.iss, k.pss, k.qss, k.xsss⟩, h.move (h.outS ou') bk ⟨kp, h.kc.ki.apart h.kc.kb h.bk (by decide) (by decide) (by decide) (by decide) ou, h.kc.kl.apart h.kc.kb h.kc.dj h.bk ou, fun g q => ?_⟩ (mem_snoc h.l1 hn) h.l2 h.l3, ou', rfl, rfl, rfl, e1, rfl, rfl, fun g aw hg hA => ⟨fun x hx a ha => ?_, fun x hx a ha => ?_, aw.p, aw.q⟩, y1, y2⟩
  · have hg : g < w.heap.size := by
      rcases q with ⟨p, hp, a, ha, rfl⟩ | ⟨p, hp, a, ha, rfl⟩
      · exact (h.kc.kl.kp.ls.lt p hp a ha).1
      · exact (h.kc.kl.kp.lw.lt p hp a ha).1
    refine ⟨fun z => ?_, fun z => ?_⟩
    · rcases y1 g z with y | y
      · exact (h.kc.dj g q).1 y
      · omega
    · rcases y2 g z with y | y
      · exact (h.kc.dj g q).2 y
      · omega
  · have hx : x ∈ r'.ps := hx
    rw [e1] at hx
    rcases List.mem_append.1 hx with z | z
    · exact aw.r x z a ha
    · rw [List.mem_singleton] at z; subst z; exact hA a ha
  · have hx : x ∈ s'.ps := hx
    rw [e2] at hx
    rcases List.mem_append.1 hx with z | z
    · exact aw.s x z a ha
    · rw [List.mem_singleton] at z; subst z; have := e3 a ha; omega
/-- behind Kids. -/
theorem Ew.kids (h : Ew w0 wS w S gk k) {A : Option Addr} {n c : Nat} {ys : List (Int × Int)} (hn : ys.length ≤ 900000) (q : KeptV gk S 124 2 78 k.mi 23 k.a k.b (k.iss.map kidCells) (k.iss.map kidCells) A n c (kidCells ys) (kidCells ys) k.cells w w') :
    ∃ k', Ew w0 wS w' S gk k' ∧ Out (Rwe gk k) w w' ∧ k'.mb = k.mb ∧ k'.mi = k.mi + 1 ∧ k'.ml = k.ml ∧ (∀ g, Aw k g → Aw k' g) := by
  obtain ⟨r', s', p, bk, kp, e1, e2, e3, y1, y2, ou⟩ := q
  have ou' : Out (Rwe gk k) w w' := ou.mono fun g z => by
    rcases z with z | z | z
    · exact Or.inl z
    · exact Or.inr (Or.inr (Or.inl (Or.inl z)))
    · exact Or.inr (Or.inr (Or.inl (Or.inr z)))
  have e : k.iss.map kidCells ++ [kidCells ys] = (k.iss ++ [ys]).map kidCells := by rw [List.map_append]; rfl
  rw [e] at kp
  exact ⟨⟨k.mb, k.mi + 1, k.ml, k.r, k.s, r', s', k.t, k.u, k.xss, k.iss ++ [ys], k.pss, k.qss, k.xsss⟩, h.move (h.outS ou') bk ⟨h.kc.kb.apart h.kc.ki h.bk (by decide) (by decide) (by decide) (by decide) ou, kp, ⟨h.kc.kl.kp.apart h.kc.ki h.bk (by decide) (by decide) (by decide) (by decide) ou, h.kc.kl.e1.imp fun g => h.kc.ki.keepGC h.bk ou g (by decide) (by decide), h.kc.kl.e2.imp fun g => h.kc.ki.keepGC h.bk ou g (by decide) (by decide)⟩, h.kc.dj⟩ h.l1 (mem_snoc h.l2 hn) h.l3, ou', rfl, rfl, rfl, fun g aw => ⟨aw.r, aw.s, aw.p, aw.q⟩⟩
/-- behind ByteLists. -/
theorem Ew.lists (h : Ew w0 wS w S gk k) {A : Option Addr} {n c : Nat} {ps : List Slot} {l : List (List UInt8)} (hn : ∀ x ∈ l, x.length ≤ 10000) (hp : ps.length ≤ 900000) (q : KeptL gk S k.mb k.ml k.r k.s k.t k.u k.xss k.pss k.qss k.xsss A n c ps l k.cells w w') :
    ∃ k', Ew w0 wS w' S gk k' ∧ Out (Rwe gk k) w w' ∧ k'.mb = k.mb + n ∧ k'.mi = k.mi ∧ k'.ml = k.ml + 1 ∧ k'.a.ps = k.a.ps ∧ (∀ g, Aw k g → g < w.heap.size → NoP ps g → Aw k' g) := by
  obtain ⟨r', s', t', u', qs, bk, kp, kl, dj, e1, e2, y1, y2, ou, n3, n4⟩ := q
  have ou' : Out (Rwe gk k) w w' := ou.mono fun g z => by
    rcases z with (z | z | z) | z | z
    · exact Or.inl z
    · exact Or.inr (Or.inl (Or.inl z))
    · exact Or.inr (Or.inl (Or.inr z))
    · exact Or.inr (Or.inr (Or.inr (Or.inl z)))
    · exact Or.inr (Or.inr (Or.inr (Or.inr z)))
  have ki : Kp w' S 124 2 78 k.mi k.a k.b (k.iss.map kidCells) (k.iss.map kidCells) := by
    have key : ∀ {n c : Nat} {A : Option Addr} {ps : List Slot} {xss : List (List Value)}, LS w S 124 2 78 A n c ps xss → LS w' S 124 2 78 A n c ps xss := fun l => by
      refine l.out ou (fun g q => ?_) (fun g q => ?_)
      · rintro ((rfl | z | z) | z | z)
        · exact absurd (ty_ne ⟨_, _, _, h.bk⟩ (l.row.atb q)) (by decide)
        · exact absurd (ty_ne (h.kc.kb.ls.row.atb z) (l.row.atb q)) (by decide)
        · exact absurd (ty_ne (h.kc.kb.lw.row.atb z) (l.row.atb q)) (by decide)
        · exact absurd (ty_ne (h.kc.kl.kp.ls.row.atb z) (l.row.atb q)) (by decide)
        · exact absurd (ty_ne (h.kc.kl.kp.lw.row.atb z) (l.row.atb q)) (by decide)
      · rintro ((rfl | z | z) | z | z)
        · exact absurd (ty_ne ⟨_, _, _, h.bk⟩ (l.inb q)) (by decide)
        · exact absurd (ty_ne (h.kc.kb.ls.row.atb z) (l.inb q)) (by decide)
        · exact absurd (ty_ne (h.kc.kb.lw.row.atb z) (l.inb q)) (by decide)
        · exact absurd (ty_ne (h.kc.kl.kp.ls.row.atb z) (l.inb q)) (by decide)
        · exact absurd (ty_ne (h.kc.kl.kp.lw.row.atb z) (l.inb q)) (by decide)
    exact ⟨key h.kc.ki.ls, key h.kc.ki.lw, h.kc.ki.ap⟩
  refine ⟨⟨k.mb + n, k.mi, k.ml + 1, r', s', k.a, k.b, t', u', k.xss ++ l, k.iss, k.pss ++ [ps], k.qss ++ [qs], k.xsss ++ [l]⟩, h.move (h.outS ou') bk ⟨kp, ki, kl, dj⟩ (fun x hx => by
    rcases List.mem_append.1 hx with q | q
    · exact h.l1 x q
    · have := hn x q; omega) h.l2 (mem_snoc h.l3 hp), ou', rfl, rfl, rfl, rfl, fun g aw hg hps => ⟨fun x hx a ha => ?_, fun x hx a ha => ?_, mem_snoc aw.p hps, mem_snoc aw.q fun x hx a ha => by have := n4 x hx a ha; omega⟩⟩
  · have hx : x ∈ r'.ps := hx
    rw [e1] at hx
    rcases List.mem_append.1 hx with z | z
    · exact aw.r x z a ha
    · exact hps x z a ha
  · rcases n3 x hx a ha with z | z
    · exact aw.s x z a ha
    · omega
/-- a block of bytes that the book has not. -/
theorem Ew.away (h : Ew w0 wS w S gk k) {g : Nat} (hg : w.heap.size ≤ g) : Aw k g := by
  have ev : ∀ {pss : List (List Slot)} {xsss : List (List (List UInt8))}, EvL w S pss xsss → ∀ ps ∈ pss, NoP ps g := fun {pss xsss} he ps hps p hp a ha e => by
    obtain ⟨j, hj, rfl⟩ := List.getElem_of_mem hps
    obtain ⟨i, hi, rfl⟩ := List.getElem_of_mem hp
    have hx : xsss[j]? = some (xsss[j]'(by rw [← he.1]; exact hj)) := List.getElem?_eq_getElem _
    obtain ⟨hl, he2⟩ := he.2 j _ _ (List.getElem?_eq_getElem hj) hx
    have hy : (xsss[j]'(by rw [← he.1]; exact hj))[i]? = some ((xsss[j]'(by rw [← he.1]; exact hj))[i]'(by rw [← hl]; exact hi)) := List.getElem?_eq_getElem _
    have := (GB.lt (he2 i _ _ (List.getElem?_eq_getElem hi) hy) a ha).1
    omega
  exact ⟨fun p hp a ha e => by have := (h.kc.kb.ls.lt p hp a ha).1; omega, fun p hp a ha e => by have := (h.kc.kb.lw.lt p hp a ha).1; omega, ev h.kc.kl.e1, ev h.kc.kl.e2⟩
/-- a write into such a block. -/
theorem Ew.put {g q n c : Nat} {cs : List Value} {v : Value} (h : Ew w0 wS w S gk k) (o : OC w 5 1 g n c cs) (aw : Aw k g) (hg : S ≤ g) : Ew w0 wS (w.setCell ⟨g, q, none⟩ v) S gk k := by
  have ou : Out (fun x => x = g) w (w.setCell ⟨g, q, none⟩ v) := (Out.refl _ w).grow (gset w g q v) fun x hx => by cases hx; exact Or.inl rfl
  have gc : ∀ {pss : List (List Slot)} {xsss : List (List (List UInt8))}, EvL w S pss xsss → (∀ ps ∈ pss, NoP ps g) → EvL (w.setCell ⟨g, q, none⟩ v) S pss xsss := fun he hn =>
    ⟨he.1, fun j ps xss h1 h2 => ⟨(he.2 j ps xss h1 h2).1, fun i p xs h3 h4 => GC.out ((he.2 j ps xss h1 h2).2 i p xs h3 h4) ou fun x z e => by
      obtain ⟨a, ea, z⟩ := z
      exact hn ps (List.mem_of_getElem? h1) p (List.mem_of_getElem? h3) a ea (z.trans e)⟩⟩
  have kl : ∀ {e sz rt n c : Nat} {A : Option Addr} {ps : List Slot} {css : List (List Value)}, LS w S e sz rt A n c ps css → 5 ≠ e → 5 ≠ rt → LS (w.setCell ⟨g, q, none⟩ v) S e sz rt A n c ps css := fun l n1 n2 =>
    l.out ou (fun x z e => n2 (ty_ne ⟨_, _, _, o⟩ (e ▸ l.row.atb z))) (fun x z e => n1 (ty_ne ⟨_, _, _, o⟩ (e ▸ l.inb z)))
  have kb : ∀ {n c : Nat} {A : Option Addr} {ps : List Slot} {css : List (List Value)}, LS w S 5 1 40 A n c ps css → NoP ps g → LS (w.setCell ⟨g, q, none⟩ v) S 5 1 40 A n c ps css := fun l hn =>
    l.out ou (fun x z e => absurd (ty_ne ⟨_, _, _, o⟩ (e ▸ l.row.atb z)) (by decide)) (fun x z e => by
      obtain ⟨p, hp, a, ha, z⟩ := z
      exact hn p hp a ha (z.trans e))
  exact h.move (ou.mono fun x e => Or.inr (by rw [e]; exact hg)) (OC.same h.bk (ou.sm h.bk.lt (fun e => by have := h.gs; omega))) ⟨⟨kb h.kc.kb.ls aw.r, kb h.kc.kb.lw aw.s, h.kc.kb.ap⟩, ⟨kl h.kc.ki.ls (by decide) (by decide), kl h.kc.ki.lw (by decide) (by decide), h.kc.ki.ap⟩, ⟨⟨kl h.kc.kl.kp.ls (by decide) (by decide), kl h.kc.kl.kp.lw (by decide) (by decide), h.kc.kl.kp.ap⟩, gc h.kc.kl.e1 aw.p, gc h.kc.kl.e2 aw.q⟩, h.kc.dj⟩ h.l1 h.l2 h.l3
end Go.Proofs.YtmeakhiiebeneaaGreatDoor
