/- coppicelaw6.ChainOwn: roomy; what the law has in hand while its book is written. -/
import Derived.Test.YtmeakhiiebeneaaGreatDoorM5
import Derived.Test.YtmeakhiiebeneaaGreatDoorJNk
import Derived.Test.YtmeakhiiebeneaaGreatDoorNn
import Derived.Test.YtmeakhiiebeneaaGreatDoorNg
namespace Go.Proofs.YtmeakhiiebeneaaGreatDoor
open Go.RowKit

def roomB (i : Nat) : UInt8 := UInt8.ofNat (47 + 11 * i)
def room40 (k : Nat) : List UInt8 := (List.range k).map roomB
theorem room40_succ (k : Nat) : room40 (k + 1) = room40 k ++ [roomB k] := by unfold room40; rw [List.range_succ, List.map_append]; rfl
theorem room40_length (k : Nat) : (room40 k).length = k := by unfold room40; simp
theorem roomB_wrap (i : Nat) : IntKind.u8.wrap (47 + 11 * (i : Int)) = ((roomB i).toNat : Int) := by
  unfold roomB
  rw [UInt8.toNat_ofNat', IntKind.wrap_u8]
  omega
theorem room_take {xs R : List UInt8} {k : Nat} (h : xs.length = k) : (xs ++ R).take k = xs := by subst h; simp
set_option maxRecDepth 100000 in
set_option maxHeartbeats 1000000 in
theorem roomy_calls (A : Option Addr) (n c : Nat) (xs : List UInt8) (w : World) (hx : RB w A n c xs) (hb : n ≤ 100000) :
    Calls Tryz.prog 29 #[.slice A n c] w fun e w' => ∃ g c', e = .returned (.slice (some ⟨g, 0, none⟩) (n + 40) c') ∧ w.heap.size ≤ g ∧ OB w' g (n + 40) c' (xs ++ room40 40) ∧ Below w.heap.size w w' := by
  go_enter Tryz.func29, Tryz.ntmps29
  go_upto_region 3 with (go_at_call 22; refine (Bytes_calls _ _ _ xs _ hx (by omega)).mono ?_; rintro e w1 ⟨g1, c1, rfl, s1, o1, b1⟩)
  go_loopw [3, 4] (fun ll ii wr => ∃ (i g c1 : Nat), i ≤ 40 ∧ ll = .slice (some ⟨g, 0, none⟩) (n + i) c1 ∧ ii = .int .i64 (i : Int) ∧ w.heap.size ≤ g ∧ OB wr g (n + i) c1 (xs ++ room40 i) ∧ Below w.heap.size w wr)
    (fun _ ii _ => 40 - (intOf ii).toNat)
  case atStart => exact ⟨0, g1, c1, by omega, rfl, rfl, s1, by rw [show room40 0 = [] from rfl, List.append_nil]; exact o1, b1⟩
  case round =>
    clear hx o1 b1 s1
    obtain ⟨i, g, c2, hi, rfl, rfl, sg, o, b⟩ := hrel
    by_cases hlt : i < 40
    · have hw := roomB_wrap i
      have o2 := o.below ((Below.refl _ _).alloc (Nat.le_refl _) (.cells (u8s [roomB i]).toArray 5))
      have l2 := (RB.lit wr [roomB i] 1 rfl (by simp [maxLen])).read
      have ol := o.lt
      go_wp2_with (at_builtin; refine wpB_app rfl _ _ rfl _ _ _ _ rfl o2 _ _ _ [roomB i] rfl l2 (n + i + 1) rfl (by omega) ?_; intro g4 c4 w4 q4 p4 o4 k4)
      have z4 : wr.heap.size < (wr.alloc (.cells (u8s [roomB i]).toArray 5)).heap.size := by simp
      have q5 : w.heap.size ≤ g4 := by
        have := b.size
        rcases q4 with q | q
        · omega
        · have q : (wr.alloc (.cells (u8s [roomB i]).toArray 5)).heap.size ≤ g4 := q
          omega
      have o5 : OB w4 g4 (n + (i + 1)) c4 (xs ++ room40 (i + 1)) := by
        rw [room40_succ, ← List.append_assoc]; exact o4
      have b5 : Below w.heap.size w w4 := (b.alloc b.size _).grown k4 (by have := b.size; simp; omega) (fun k hk => by cases hk; exact sg)
      go_roundw
      case rel => exact ⟨i + 1, g4, c4, by omega, rfl, by go_num, q5, o5, b5⟩
      case measure => simp [intOf]; omega
    · obtain rfl : i = 40 := by omega
      go_wp2
      go_ret
      exact ⟨_, _, rfl, sg, o, b⟩
/-- what the book holds. -/
structure Ci where
  mb : Nat
  mi : Nat
  ml : Nat
  r : Row
  s : Row
  a : Row
  b : Row
  t : Row
  u : Row
  xss : List (List UInt8)
  iss : List (List Int)
  pss : List (List Slot)
  qss : List (List Slot)
  xsss : List (List (List UInt8))
def Ci.cells (k : Ci) : List Value := bookC (k.r.v k.mb) (k.s.v k.mb) (k.a.v k.mi) (k.b.v k.mi) (k.t.v k.ml) (k.u.v k.ml)
def Ci.no : Ci := ⟨0, 0, 0, Row.no, Row.no, Row.no, Row.no, Row.no, Row.no, [], [], [], [], []⟩
/-- the book, the law's bytes with room behind, its numbers with two behind. -/
structure Cw (w0 w : World) (S gk gB cB nB gI cI nI : Nat) (k : Ci) (xs : List UInt8) (zs : List Int) : Prop where
  bk : Bk w gk k.cells
  kc : Kc w S k.mb k.mi k.ml k.r k.s k.a k.b k.t k.u k.xss k.iss k.pss k.qss k.xsss
  ob : OB w gB (nB + 40) cB (xs ++ room40 40)
  oi : OC w 3 1 gI (nI + 2) cI (i64s (zs ++ [7, 9]))
  lx : xs.length = nB
  lz : zs.length = nI
  gb : gB < S
  gi : gI < S
  gs : gk < S
  g0 : w0.heap.size ≤ gk
  gB0 : w0.heap.size ≤ gB
  gI0 : w0.heap.size ≤ gI
  zs' : S ≤ w.heap.size
  bb : Below w0.heap.size w0 w
  tb : Tb w0.heap.size w
  l1 : ∀ xs ∈ k.xss, xs.length ≤ 900000
  l2 : ∀ xs ∈ k.iss, xs.length ≤ 900000
  l3 : ∀ ps ∈ k.pss, ps.length ≤ 900000
variable {w0 w w' : World} {S gk gB cB nB gI cI nI : Nat} {k : Ci} {xs : List UInt8} {zs : List Int}
theorem Cw.below (h : Cw w0 w S gk gB cB nB gI cI nI k xs zs) (x : Below w.heap.size w w') : Cw w0 w' S gk gB cB nB gI cI nI k xs zs :=
  ⟨h.bk.below x, h.kc.below x, h.ob.below x, OC.below h.oi x, h.lx, h.lz, h.gb, h.gi, h.gs, h.g0, h.gB0, h.gI0, Nat.le_trans h.zs' x.size, h.bb.trans (x.mono h.bb.size), h.tb.below h.bb.size x, h.l1, h.l2, h.l3⟩
theorem Cw.s0 (h : Cw w0 w S gk gB cB nB gI cI nI k xs zs) : w0.heap.size ≤ S := Nat.le_trans h.g0 (Nat.le_of_lt h.gs)
/-- what is told by its type stays where the book is written. -/
def Rwa (gk : Nat) (k : Ci) (g : Nat) : Prop := g = gk ∨ (AtB k.r.A g ∨ AtB k.s.A g) ∨ (AtB k.a.A g ∨ AtB k.b.A g) ∨ (AtB k.t.A g ∨ AtB k.u.A g)
theorem Cw.keepGC (h : Cw w0 w S gk gB cB nB gI cI nI k xs zs) (ou : Out (Rwa gk k) w w') {b e sz n c : Nat} {A : Option Addr} {cs : List Value} (o : GC w b e sz A n c cs) (n0 : 39 ≠ e) (n1 : 40 ≠ e) (n2 : 63 ≠ e) (n3 : 25 ≠ e) : GC w' b e sz A n c cs :=
  o.out ou fun g q => by
    rintro (rfl | (z | z) | (z | z) | z | z)
    · exact n0 (ty_ne ⟨_, _, _, h.bk⟩ (o.atb q))
    · exact n1 (ty_ne (h.kc.kb.ls.row.atb z) (o.atb q))
    · exact n1 (ty_ne (h.kc.kb.lw.row.atb z) (o.atb q))
    · exact n2 (ty_ne (h.kc.ki.ls.row.atb z) (o.atb q))
    · exact n2 (ty_ne (h.kc.ki.lw.row.atb z) (o.atb q))
    · exact n3 (ty_ne (h.kc.kl.kp.ls.row.atb z) (o.atb q))
    · exact n3 (ty_ne (h.kc.kl.kp.lw.row.atb z) (o.atb q))
theorem Cw.keepOC (h : Cw w0 w S gk gB cB nB gI cI nI k xs zs) (ou : Out (Rwa gk k) w w') {e sz g n c : Nat} {cs : List Value} (o : OC w e sz g n c cs) (n0 : 39 ≠ e) (n1 : 40 ≠ e) (n2 : 63 ≠ e) (n3 : 25 ≠ e) : OC w' e sz g n c cs := by
  rcases (h.keepGC ou (GC.of o (Nat.le_refl g)) n0 n1 n2 n3).oc with ⟨e0, _⟩ | ⟨g', e0, _, o'⟩
  · cases e0
  · cases e0; exact o'
theorem Cw.outBelow (h : Cw w0 w S gk gB cB nB gI cI nI k xs zs) (ou : Out (Rwa gk k) w w') : Below w0.heap.size w w' :=
  ou.below h.bb.size fun g q => by
    have s0 := h.s0
    rcases q with rfl | (⟨a, ea, rfl⟩ | ⟨a, ea, rfl⟩) | (⟨a, ea, rfl⟩ | ⟨a, ea, rfl⟩) | ⟨a, ea, rfl⟩ | ⟨a, ea, rfl⟩
    · exact h.g0
    · exact Nat.le_trans s0 (h.kc.kb.ls.row.lt a ea).2
    · exact Nat.le_trans s0 (h.kc.kb.lw.row.lt a ea).2
    · exact Nat.le_trans s0 (h.kc.ki.ls.row.lt a ea).2
    · exact Nat.le_trans s0 (h.kc.ki.lw.row.lt a ea).2
    · exact Nat.le_trans s0 (h.kc.kl.kp.ls.row.lt a ea).2
    · exact Nat.le_trans s0 (h.kc.kl.kp.lw.row.lt a ea).2
/-- a new state of the book, behind a write to its rows. -/
theorem Cw.next {k' : Ci} (h : Cw w0 w S gk gB cB nB gI cI nI k xs zs) (ou : Out (Rwa gk k) w w') (bk : Bk w' gk k'.cells) (kc : Kc w' S k'.mb k'.mi k'.ml k'.r k'.s k'.a k'.b k'.t k'.u k'.xss k'.iss k'.pss k'.qss k'.xsss) (l1 : ∀ xs ∈ k'.xss, xs.length ≤ 900000) (l2 : ∀ xs ∈ k'.iss, xs.length ≤ 900000) (l3 : ∀ ps ∈ k'.pss, ps.length ≤ 900000) : Cw w0 w' S gk gB cB nB gI cI nI k' xs zs := by
  have ob := h.outBelow ou
  exact ⟨bk, kc, h.keepOC ou h.ob (by decide) (by decide) (by decide) (by decide), h.keepOC ou h.oi (by decide) (by decide) (by decide) (by decide), h.lx, h.lz, h.gb, h.gi, h.gs, h.g0, h.gB0, h.gI0, Nat.le_trans h.zs' ou.size, h.bb.trans ob, h.tb.next ob, l1, l2, l3⟩
theorem mem_snoc {α : Type} {P : α → Prop} {l : List α} {x : α} (h : ∀ y ∈ l, P y) (hx : P x) : ∀ y ∈ l ++ [x], P y := fun y hy => by
  rcases List.mem_append.1 hy with q | q
  · exact h y q
  · rw [List.mem_singleton] at q; rw [q]; exact hx
/-- behind Bytes. -/
theorem Cw.bytes (h : Cw w0 w S gk gB cB nB gI cI nI k xs zs) {A : Option Addr} {n c : Nat} {ys : List UInt8} (hn : ys.length ≤ 900000) (q : KeptV gk S 5 1 40 k.mb 2 k.r k.s (k.xss.map u8s) (k.xss.map u8s) A n c (u8s ys) (u8s ys) k.cells w w') :
    ∃ k', Cw w0 w' S gk gB cB nB gI cI nI k' xs zs ∧ Out (Rwa gk k) w w' ∧ k'.mb = k.mb + 1 ∧ k'.mi = k.mi ∧ k'.ml = k.ml ∧ k'.r.ps = k.r.ps ++ [(A, n, c)] ∧ k'.a.ps = k.a.ps ∧ k'.t.ps = k.t.ps := by
  obtain ⟨r', s', p, bk, kp, e1, e2, e3, y1, y2, ou⟩ := q
  have ou' : Out (Rwa gk k) w w' := ou.mono fun g z => by
    rcases z with z | z | z
    · exact Or.inl z
    · exact Or.inr (Or.inl (Or.inl z))
    · exact Or.inr (Or.inl (Or.inr z))
  have e : k.xss.map u8s ++ [u8s ys] = (k.xss ++ [ys]).map u8s := by rw [List.map_append]; rfl
  rw [e] at kp
  refine ⟨⟨k.mb + 1, k.mi, k.ml, r', s', k.a, k.b, k.t, k.u, k.xss ++ [ys], k.iss, k.pss, k.qss, k.xsss⟩, h.next ou' bk ⟨kp, h.kc.ki.apart h.kc.kb h.bk (by decide) (by decide) (by decide) (by decide) ou, h.kc.kl.apart h.kc.kb h.kc.dj h.bk ou, fun g q => ?_⟩ (mem_snoc h.l1 hn) h.l2 h.l3, ou', rfl, rfl, rfl, e1, rfl, rfl⟩
  have hg : g < w.heap.size := by
    rcases q with ⟨p, hp, a, ha, rfl⟩ | ⟨p, hp, a, ha, rfl⟩
    · exact (h.kc.kl.kp.ls.lt p hp a ha).1
    · exact (h.kc.kl.kp.lw.lt p hp a ha).1
  refine ⟨fun z => ?_, fun z => ?_⟩
  · rcases y1 g z with y | y
    · exact (h.kc.dj g q).1 y
    · omega
  · rcases y2 g z with y | y
    · exact (h.kc.dj g q).2 y
    · omega
/-- behind Ints. -/
theorem Cw.ints (h : Cw w0 w S gk gB cB nB gI cI nI k xs zs) {A : Option Addr} {n c : Nat} {ys : List Int} (hn : ys.length ≤ 900000) (q : KeptV gk S 3 1 63 k.mi 5 k.a k.b (k.iss.map i64s) (k.iss.map i64s) A n c (i64s ys) (i64s ys) k.cells w w') :
    ∃ k', Cw w0 w' S gk gB cB nB gI cI nI k' xs zs ∧ Out (Rwa gk k) w w' ∧ k'.mb = k.mb ∧ k'.mi = k.mi + 1 ∧ k'.ml = k.ml ∧ k'.r.ps = k.r.ps ∧ k'.a.ps = k.a.ps ++ [(A, n, c)] ∧ k'.t.ps = k.t.ps := by
  obtain ⟨r', s', p, bk, kp, e1, e2, e3, y1, y2, ou⟩ := q
  have ou' : Out (Rwa gk k) w w' := ou.mono fun g z => by
    rcases z with z | z | z
    · exact Or.inl z
    · exact Or.inr (Or.inr (Or.inl (Or.inl z)))
    · exact Or.inr (Or.inr (Or.inl (Or.inr z)))
  have e : k.iss.map i64s ++ [i64s ys] = (k.iss ++ [ys]).map i64s := by rw [List.map_append]; rfl
  rw [e] at kp
  exact ⟨⟨k.mb, k.mi + 1, k.ml, k.r, k.s, r', s', k.t, k.u, k.xss, k.iss ++ [ys], k.pss, k.qss, k.xsss⟩, h.next ou' bk ⟨h.kc.kb.apart h.kc.ki h.bk (by decide) (by decide) (by decide) (by decide) ou, kp, ⟨h.kc.kl.kp.apart h.kc.ki h.bk (by decide) (by decide) (by decide) (by decide) ou, h.kc.kl.e1.imp fun g => h.kc.ki.keepGC h.bk ou g (by decide) (by decide), h.kc.kl.e2.imp fun g => h.kc.ki.keepGC h.bk ou g (by decide) (by decide)⟩, h.kc.dj⟩ h.l1 (mem_snoc h.l2 hn) h.l3, ou', rfl, rfl, rfl, rfl, e1, rfl⟩
/-- behind ByteLists. -/
theorem Cw.lists (h : Cw w0 w S gk gB cB nB gI cI nI k xs zs) {A : Option Addr} {n c : Nat} {ps : List Slot} {l : List (List UInt8)} (hn : ∀ x ∈ l, x.length ≤ 10000) (hp : ps.length ≤ 900000) (q : KeptL gk S k.mb k.ml k.r k.s k.t k.u k.xss k.pss k.qss k.xsss A n c ps l k.cells w w') :
    ∃ k', Cw w0 w' S gk gB cB nB gI cI nI k' xs zs ∧ Out (Rwa gk k) w w' ∧ k'.mb = k.mb + n ∧ k'.mi = k.mi ∧ k'.ml = k.ml + 1 := by
  obtain ⟨r', s', t', u', qs, bk, kp, kl, dj, e1, e2, y1, y2, ou⟩ := q
  have ou' : Out (Rwa gk k) w w' := ou.mono fun g z => by
    rcases z with (z | z | z) | z | z
    · exact Or.inl z
    · exact Or.inr (Or.inl (Or.inl z))
    · exact Or.inr (Or.inl (Or.inr z))
    · exact Or.inr (Or.inr (Or.inr (Or.inl z)))
    · exact Or.inr (Or.inr (Or.inr (Or.inr z)))
  have ki : Kp w' S 3 1 63 k.mi k.a k.b (k.iss.map i64s) (k.iss.map i64s) := by
    have key : ∀ {n c : Nat} {A : Option Addr} {ps : List Slot} {xss : List (List Value)}, LS w S 3 1 63 A n c ps xss → LS w' S 3 1 63 A n c ps xss := fun l => by
      refine l.out ou (fun g q => ?_) (fun g q => ?_)
      · rintro ((rfl | z | z) | z | z)
        · exact absurd (ty_ne ⟨_, _, _, h.bk⟩ (l.row.atb q)) (by decide)
        · exact absurd (ty_ne (h.kc.kb.ls.row.atb z) (l.row.atb q)) (by decide)
        · exact absurd (ty_ne (h.kc.kb.lw.row.atb z) (l.row.atb q)) (by decide)
        · exact absurd (ty_ne (h.kc.kl.kp.ls.row.atb z) (l.row.atb q)) (by decide)
        · exact absurd (ty_ne (h.kc.kl.kp.lw.row.atb z) (l.row.atb q)) (by decide)
      · rintro ((rfl | z | z) | z | z)
        · exact absurd (ty_ne ⟨_, _, _, h.bk⟩ (l.inb q)) (by decide)
        · exact absurd (ty_ne (h.kc.kb.ls.row.atb z) (l.inb q)) (by decide)
        · exact absurd (ty_ne (h.kc.kb.lw.row.atb z) (l.inb q)) (by decide)
        · exact absurd (ty_ne (h.kc.kl.kp.ls.row.atb z) (l.inb q)) (by decide)
        · exact absurd (ty_ne (h.kc.kl.kp.lw.row.atb z) (l.inb q)) (by decide)
    exact ⟨key h.kc.ki.ls, key h.kc.ki.lw, h.kc.ki.ap⟩
  exact ⟨⟨k.mb + n, k.mi, k.ml + 1, r', s', k.a, k.b, t', u', k.xss ++ l, k.iss, k.pss ++ [ps], k.qss ++ [qs], k.xsss ++ [l]⟩, h.next ou' bk ⟨kp, ki, kl, dj⟩ (fun x hx => by
    rcases List.mem_append.1 hx with q | q
    · exact h.l1 x q
    · have := hn x q; omega) h.l2 (mem_snoc h.l3 hp), ou', rfl, rfl, rfl⟩
/-- a write outside the book's blocks. -/
theorem Cw.put {g q : Nat} {v : Value} {xs' : List UInt8} {zs' : List Int} (h : Cw w0 w S gk gB cB nB gI cI nI k xs zs) (hg : g < S) (hk : g ≠ gk) (h0 : w0.heap.size ≤ g) (ob : OB (w.setCell ⟨g, q, none⟩ v) gB (nB + 40) cB (xs' ++ room40 40)) (oi : OC (w.setCell ⟨g, q, none⟩ v) 3 1 gI (nI + 2) cI (i64s (zs' ++ [7, 9]))) (lx : xs'.length = nB) (lz : zs'.length = nI) : Cw w0 (w.setCell ⟨g, q, none⟩ v) S gk gB cB nB gI cI nI k xs' zs' := by
  have ou : Out (fun x => x = g) w (w.setCell ⟨g, q, none⟩ v) := (Out.refl _ w).grow (gset w g q v) fun x hx => by cases hx; exact Or.inl rfl
  have ob0 : Below w0.heap.size w (w.setCell ⟨g, q, none⟩ v) := ou.below h.bb.size fun x e => by rw [e]; exact h0
  have kl : ∀ {e sz rt n c : Nat} {A : Option Addr} {ps : List Slot} {css : List (List Value)}, LS w S e sz rt A n c ps css → LS (w.setCell ⟨g, q, none⟩ v) S e sz rt A n c ps css := fun l =>
    l.outDj ou fun x z e => by have := l.lo z; omega
  have kp : ∀ {e sz rt m : Nat} {r s : Row} {css dss : List (List Value)}, Kp w S e sz rt m r s css dss → Kp (w.setCell ⟨g, q, none⟩ v) S e sz rt m r s css dss := fun x => ⟨kl x.ls, kl x.lw, x.ap⟩
  have gc : ∀ {A : Option Addr} {n c : Nat} {ys : List UInt8}, GB w S A n c ys → GB (w.setCell ⟨g, q, none⟩ v) S A n c ys := fun o => GC.out o ou fun x z e => by
    obtain ⟨a, ea, z⟩ := z
    have := (GB.lt o a ea).2; omega
  exact ⟨OC.same h.bk (ou.sm h.bk.lt (fun e => hk e.symm)), ⟨kp h.kc.kb, kp h.kc.ki, ⟨kp h.kc.kl.kp, h.kc.kl.e1.imp gc, h.kc.kl.e2.imp gc⟩, h.kc.dj⟩, ob, oi, lx, lz, h.gb, h.gi, h.gs, h.g0, h.gB0, h.gI0, Nat.le_trans h.zs' ou.size, h.bb.trans ob0, h.tb.next ob0, h.l1, h.l2, h.l3⟩
theorem Cw.lt (h : Cw w0 w S gk gB cB nB gI cI nI k xs zs) : (∀ p ∈ k.r.ps, ∀ a, p.1 = some a → a.block < w.heap.size) ∧ (∀ p ∈ k.a.ps, ∀ a, p.1 = some a → a.block < w.heap.size) ∧ (∀ p ∈ k.t.ps, ∀ a, p.1 = some a → a.block < w.heap.size) ∧ (∀ g, AtB k.r.A g → g < w.heap.size) ∧ (∀ g, AtB k.s.A g → g < w.heap.size) :=
  ⟨fun p hp a ha => (h.kc.kb.ls.lt p hp a ha).1, fun p hp a ha => (h.kc.ki.ls.lt p hp a ha).1, fun p hp a ha => (h.kc.kl.kp.ls.lt p hp a ha).1, fun g q => by obtain ⟨a, ea, rfl⟩ := q; exact (h.kc.kb.ls.row.lt a ea).1, fun g q => by obtain ⟨a, ea, rfl⟩ := q; exact (h.kc.kb.lw.row.lt a ea).1⟩
theorem Cw.rb (h : Cw w0 w S gk gB cB nB gI cI nI k xs zs) : RB w (some ⟨gB, 0, none⟩) nB cB xs := by
  have := h.ob.read.take nB (by omega); rwa [room_take h.lx] at this
theorem RC.take {w : World} {A : Option Addr} {n c : Nat} {cs : List Value} (h : RC w 1 A n c cs) (k : Nat) (hk : k ≤ n) : RC w 1 A k c (cs.take k) :=
  ⟨by rw [List.length_take, RC.len h]; omega, by have := RC.le h; omega, RC.mx h, RC.non h, fun ad e j u hu => by
    refine RC.cell h ad e j u ?_
    rw [List.getElem?_take] at hu
    split at hu
    · exact hu
    · cases hu⟩
theorem Cw.ri (h : Cw w0 w S gk gB cB nB gI cI nI k xs zs) : RI w (some ⟨gI, 0, none⟩) nI cI zs := by
  have e : (i64s (zs ++ [7, 9])).take nI = i64s zs := by
    rw [i64s_append, List.take_left' (by rw [i64s_length, h.lz])]
  have := RC.take (OC.read h.oi) nI (by omega)
  rw [e] at this
  exact this
theorem Cw.c7 (h : Cw w0 w S gk gB cB nB gI cI nI k xs zs) : w.cell? ⟨gI, nI, none⟩ = some (.int .i64 7) :=
  OC.cell h.oi nI _ (by rw [i64s_append, List.getElem?_append_right (by rw [i64s_length, h.lz]; exact Nat.le_refl _), i64s_length, h.lz, Nat.sub_self]; rfl)
theorem Cw.c9 (h : Cw w0 w S gk gB cB nB gI cI nI k xs zs) : w.cell? ⟨gI, nI + 1, none⟩ = some (.int .i64 9) :=
  OC.cell h.oi (nI + 1) _ (by rw [i64s_append, List.getElem?_append_right (by rw [i64s_length, h.lz]; omega), i64s_length, h.lz, Nat.add_sub_cancel_left]; rfl)
theorem pieces_len (v : List UInt8) : (∀ x ∈ pieces v, x.length ≤ 4085) ∧ (pieces v).length ≤ 65 := by
  unfold pieces
  refine ⟨fun x hx => ?_, by rw [List.length_map, List.length_range]; exact pages_le _⟩
  obtain ⟨i, _, rfl⟩ := List.mem_map.1 hx
  exact List.length_take_le _ _
theorem OM.base {w : World} {base n c : Nat} {A : Option Addr} {ps : List Slot} {l : List (List UInt8)} (h : OM w base A n c ps l) : (∀ p ∈ ps, ∀ a, p.1 = some a → base ≤ a.block) ∧ (∀ g, AtB A g → base ≤ g) := by
  refine ⟨fun p hp a ha => ?_, fun g q => by obtain ⟨a, ea, rfl⟩ := q; exact (h.row.lt a ea).2⟩
  obtain ⟨j, hj, rfl⟩ := List.getElem_of_mem hp
  have hx : l[j]? = some (l[j]'(by rw [← h.len]; exact hj)) := List.getElem?_eq_getElem _
  exact ((h.each j _ _ (List.getElem?_eq_getElem hj) hx).lt a ha).2
end Go.Proofs.YtmeakhiiebeneaaGreatDoor
