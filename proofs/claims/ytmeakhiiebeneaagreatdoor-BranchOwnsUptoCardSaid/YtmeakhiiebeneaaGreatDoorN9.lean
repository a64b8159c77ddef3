/- coppicekept.Book.kidsUntouched. -/
import Derived.Test.YtmeakhiiebeneaaGreatDoorN3
import Derived.Test.YtmeakhiiebeneaaGreatDoorPk
import Derived.Test.YtmeakhiiebeneaaGreatDoorBi
import Derived.Test.YtmeakhiiebeneaaGreatDoorJDg
import Derived.Test.YtmeakhiiebeneaaGreatDoorN5
import Derived.Test.YtmeakhiiebeneaaGreatDoorN7
namespace Go.Proofs.YtmeakhiiebeneaaGreatDoor
open Go.RowKit

theorem LS.rk {w : World} {base m c : Nat} {A : Option Addr} {ps : List Slot} {xss : List (List (Int × Int))} (h : LS w base 124 2 78 A m c ps (xss.map kidCells)) (i : Nat) (hi : i < m) : ∃ (ad : Addr) (p : Slot) (zs : List (Int × Int)), A = some ad ∧ xss[i]? = some zs ∧ w.cell? (ad.add i) = some (.slice p.1 p.2.1 p.2.2) ∧ RK w p.1 p.2.1 p.2.2 zs := by
  obtain ⟨ad, p, cs, e, hp, hc, cell, rc⟩ := h.read.at_ i hi
  rw [List.getElem?_map] at hc
  rcases hz : xss[i]? with _ | zs
  · rw [hz] at hc; cases hc
  · rw [hz] at hc
    cases hc
    exact ⟨ad, p, zs, e, rfl, cell, rc⟩
set_option maxRecDepth 100000 in
set_option maxHeartbeats 4000000 in
theorem kidsUntouched_calls (gk base m : Nat) (t u : Row) (xss : List (List (Int × Int))) (w : World) (h2 : w.cell? ⟨gk, 23, none⟩ = some (t.v m)) (h3 : w.cell? ⟨gk, 24, none⟩ = some (u.v m)) (h : Kp w base 124 2 78 m t u (xss.map kidCells) (xss.map kidCells)) (hm : m ≤ 1000000) :
    Calls Tryz.prog 123 #[.pointer (some ⟨gk, 0, none⟩)] w fun e w' => e = .returned (.bool true) ∧ Below w.heap.size w w' := by
  obtain ⟨At, ct, pt⟩ := t
  obtain ⟨Au, cu, pu⟩ := u
  simp only [Row.v] at *
  have H := hideIt h
  clear h
  go_enter Tryz.func123, Tryz.ntmps123
  go_wp2
  go_loopw [3] (fun ii wr => ∃ i : Nat, i ≤ m ∧ ii = .int .i64 (i : Int) ∧ Below w.heap.size w wr)
    (fun ii _ => m - (intOf ii).toNat)
  case atStart => exact ⟨0, by omega, rfl, Below.refl _ _⟩
  case round =>
    obtain ⟨i, hi, rfl, b⟩ := hrel
    have c2 := (b.cell (World.block_lt_of_cell? w _ h2)).trans h2
    have c3 := (b.cell (World.block_lt_of_cell? w _ h3)).trans h3
    by_cases hlt : i < m
    · have K := hideIt (H.out.below b)
      obtain ⟨ad, ⟨A1, n1, d1⟩, zs, rfl, hz, x1, r1⟩ := LS.rk K.out.ls i hlt
      obtain ⟨ad', ⟨A2, n2, d2⟩, zs', rfl, hz', y1, r2⟩ := LS.rk K.out.lw i hlt
      simp only at x1 y1 r1 r2
      obtain rfl : zs = zs' := Option.some.inj (hz.symm.trans hz')
      have i1 : (i : Int) < (m : Int) := by omega
      have bd : Below wr.heap.size wr wr.drew := drew1 wr
      have SI : ∀ W, RK W A1 n1 d1 zs → RK W A2 n2 d2 zs → Calls Tryz.prog 50 #[.slice A1 n1 d1, .slice A2 n2 d2] W fun e w' => e = .returned (.bool true) ∧ Below W.heap.size W w' := fun W q1 q2 => (SameKids_calls _ _ _ _ _ _ _ _ W q1 q2 true (by simp)).mono fun _ _ ⟨e, j, q⟩ => ⟨e, by rw [q]; exact below_drewN (Below.refl _ _) j⟩
      have q1 := r1.below bd
      have q2 := r2.below bd
      have c2d : wr.drew.cell? ⟨gk, 23, none⟩ = some (.slice (some ad) m ct) := c2
      have c3d : wr.drew.cell? ⟨gk, 24, none⟩ = some (.slice (some ad') m cu) := c3
      have x1d : wr.drew.cell? (ad.add i) = some (.slice A1 n1 d1) := x1
      have y1d : wr.drew.cell? (ad'.add i) = some (.slice A2 n2 d2) := y1
      clear hz hz' r1 r2
      go_wp2
      go_region_held3 (fun w' => w'.cell? ⟨gk, 23, none⟩ = some (.slice (some ad) m ct) ∧ w'.cell? ⟨gk, 24, none⟩ = some (.slice (some ad') m cu) ∧ w'.cell? (ad.add i) = some (.slice A1 n1 d1) ∧ w'.cell? (ad'.add i) = some (.slice A2 n2 d2))
        (first | exact ⟨c2d, c3d, x1d, y1d⟩ | exact ⟨c2e, c3e, x1e, y1e⟩ | go_keep)
        (first
          | (go_at_call 50; (with_reducible refine (SI _ q1 q2).mono ?_); rintro en w2 ⟨rfl, xx⟩; have b2 := blw_step b (blw_step bd xx); have bb := blw_step bd xx; have c2e := (bb.cell (World.block_lt_of_cell? wr _ c2)).trans c2; have c3e := (bb.cell (World.block_lt_of_cell? wr _ c3)).trans c3; have x1e := (bb.cell (World.block_lt_of_cell? wr _ x1)).trans x1; have y1e := (bb.cell (World.block_lt_of_cell? wr _ y1)).trans y1))
      clear c2d c3d x1d y1d c2e c3e x1e y1e bb bd xx q1 q2 SI K
      go_wp2
      go_roundw
      case rel => exact ⟨i + 1, by omega, by go_num, b2⟩
      case measure => simp [intOf]; omega
    · obtain rfl : m = i := by omega
      go_wp2
      go_ret
      exact ⟨rfl, b⟩
end Go.Proofs.YtmeakhiiebeneaaGreatDoor
namespace Go.Proofs.YtmeakhiiebeneaaGreatDoor
open Go.RowKit

def KC.kids {B gk id0 : Nat} (base m : Nat) (r s : Row) (xss : List (List (Int × Int))) (hm : m ≤ 900000) (hid : id0 ≤ 1000000) : KC B gk base 7 id0 :=
  KC.lists base 124 2 78 m 900000 r (s.v m) (fun q css => MarkR (mkD (q : Int)) id0 m css) (fun w => Kp w base 124 2 78 m r s (xss.map kidCells) (xss.map kidCells)) (fun h b => Kp.below h b)
    (fun w bs bk e0 e1 h => kidsUntouched_calls gk base m r s xss w (OC.cell bk 23 _ e0) (OC.cell bk 24 _ e1) h (by omega))
    (fun w bs css q hq bk e1 e2 ls l => kidsWrite_calls gk base m r.c id0 900000 (q : Int) r.A r.ps bs css w bk e1 e2 ls l (by omega) hid (by omega) (by omega) (by omega))
    (fun w bs css zss Ag mg cg qs q hq bk e1 e2 e4 h1 k1 l1 h2 hmg k2 l2 => kidsHold_calls gk m r.c mg cg id0 900000 (900000 + 70) (q : Int) r.A Ag r.ps qs css zss w (OC.cell bk 1 _ e1) (OC.cell bk 23 _ e2) (OC.cell bk 25 _ e4) h1 k1 l1 h2 hmg k2 l2 (by omega) hid (by omega) (by omega) (by omega) (by omega))
    (fun w bs css B2 n mg cg Ag F hn bk e1 e2 e4 g h1 h2 => kidsGrow_t gk base B2 m r.c id0 900000 n mg cg 1 r.A Ag r.ps bs css F w bk e1 e2 e4 g (by omega) (by omega) hm hid h1 h2 (by omega) (by omega))
    (fun q => MarkR.nil _ _ _)
end Go.Proofs.YtmeakhiiebeneaaGreatDoor
namespace Go.Proofs.YtmeakhiiebeneaaGreatDoor
open Go.RowKit

def bookD (b bw l lw d dw : Value) : List Value := [.int .i64 0, .int .i64 0, b, bw, nilV, nilV, nilV, nilV, nilV, nilV, nilV, l, lw, nilV, nilV, nilV, nilV, nilV, nilV, nilV, nilV, nilV, nilV, d, dw, nilV, nilV, nilV, nilV, nilV, nilV, nilV, nilV, nilV, nilV, nilV, nilV, nilV, nilV, nilV, nilV]
def brS (mb mi ml : Nat) : Nat → Nat
  | 0 => 0
  | 1 => mb
  | 2 => mb
  | 3 => mb
  | 4 => mb + ml
  | 5 => mb + ml
  | 6 => mb + ml
  | 7 => mb + ml
  | _ + 8 => mb + ml + mi
def brK {B gk : Nat} (base mb mi ml : Nat) (r s a b t u : Row) (xss : List (List UInt8)) (iss : List (List (Int × Int))) (pss qss : List (List Slot)) (xsss : List (List (List UInt8))) (hB : B ≤ base) (h1 : mb ≤ 400000) (h2 : mi ≤ 800000) (h3 : ml ≤ 400000) : (i : Nat) → i < 13 → KC B gk base i (brS mb mi ml i)
  | 0, _ => KC.bytes base mb r s xss (by omega) (show 0 ≤ 1000000 by decide)
  | 1, _ => KC.no_ints B gk base _
  | 2, _ => KC.no_texts B gk base _
  | 3, _ => KC.byteLists base ml t u pss qss xsss hB (by omega) (show mb ≤ 3000000 by omega)
  | 4, _ => KC.no_intLists B gk base _
  | 5, _ => KC.no_pairs B gk base _
  | 6, _ => KC.no_items B gk base _
  | 7, _ => KC.kids base mi a b iss (by omega) (show mb + ml ≤ 1000000 by omega)
  | 8, _ => KC.no_nodes B gk base _
  | 9, _ => KC.no_writes B gk base _
  | 10, _ => KC.no_changes B gk base _
  | 11, _ => KC.no_fates B gk base _
  | 12, _ => KC.no_ops B gk base _
  | n + 13, h => absurd h (by omega)
def brF {B gk : Nat} (base mb mi ml : Nat) (r s a b t u : Row) (xss : List (List UInt8)) (iss : List (List (Int × Int))) (pss qss : List (List Slot)) (xsss : List (List (List UInt8))) (hB : B ≤ base) (h1 : mb ≤ 400000) (h2 : mi ≤ 800000) (h3 : ml ≤ 400000) : KF B gk base where
  hbb := hB
  S := brS mb mi ml
  K := brK base mb mi ml r s a b t u xss iss pss qss xsss hB h1 h2 h3
  s0 := rfl
  s1 := fun i hi => by
    match i, hi with
    | 0, _ => exact (Nat.zero_add _).symm
    | 1, _ => exact rfl
    | 2, _ => exact rfl
    | 3, _ => exact rfl
    | 4, _ => exact rfl
    | 5, _ => exact rfl
    | 6, _ => exact rfl
    | 7, _ => exact rfl
    | 8, _ => exact rfl
    | 9, _ => exact rfl
    | 10, _ => exact rfl
    | 11, _ => exact rfl
    | 12, _ => exact rfl
    | n + 13, h => exact absurd h (by omega)
/-- the blocks of each kind. -/
def brB (r a t : Row) : Nat → Nat → Prop
  | 0 => Blk r.A r.ps
  | 3 => Blk t.A t.ps
  | 7 => Blk a.A a.ps
  | _ => fun _ => False
/-- a book with lists of bytes, of ints and of lists of bytes. -/
structure Ke (w : World) (base mb mi ml : Nat) (r s a b t u : Row) (xss : List (List UInt8)) (iss : List (List (Int × Int))) (pss qss : List (List Slot)) (xsss : List (List (List UInt8))) : Prop where
  kb : Kp w base 5 1 40 mb r s (xss.map u8s) (xss.map u8s)
  ki : Kp w base 124 2 78 mi a b (iss.map kidCells) (iss.map kidCells)
  kl : Kl w base ml t u pss qss xsss
  dj : Djl r s t u
theorem Ke.below {w w' : World} {base mb mi ml : Nat} {r s a b t u : Row} {xss : List (List UInt8)} {iss : List (List (Int × Int))} {pss qss : List (List Slot)} {xsss : List (List (List UInt8))} (h : Ke w base mb mi ml r s a b t u xss iss pss qss xsss) (x : Below w.heap.size w w') : Ke w' base mb mi ml r s a b t u xss iss pss qss xsss :=
  ⟨h.kb.below x, h.ki.below x, h.kl.below x, h.dj⟩
theorem Ke.no (w : World) (base : Nat) : Ke w base 0 0 0 Row.no Row.no Row.no Row.no Row.no Row.no [] [] [] [] [] :=
  ⟨Kp.no _ _ _ _ _, Kp.no _ _ _ _ _, Kl.no _ _, fun g q => by rcases q with ⟨p, hp, _⟩ | ⟨p, hp, _⟩ <;> cases hp⟩
theorem Ke.djs {w : World} {base mb mi ml : Nat} {r s a b t u : Row} {xss : List (List UInt8)} {iss : List (List (Int × Int))} {pss qss : List (List Slot)} {xsss : List (List (List UInt8))} (h : Ke w base mb mi ml r s a b t u xss iss pss qss xsss) : (∀ i j, i < 13 → j < 13 → i ≠ j → Dj (brB r a t i) (brB r a t j)) := by
  have d01 : Dj (Blk r.A r.ps) (Blk a.A a.ps) := h.kb.ls.blkDj h.ki.ls (by decide) (by decide) (by decide) (by decide)
  have d31 : Dj (Blk t.A t.ps) (Blk a.A a.ps) := h.kl.kp.ls.blkDj h.ki.ls (by decide) (by decide) (by decide) (by decide)
  have d03 : Dj (Blk r.A r.ps) (Blk t.A t.ps) := by
    rintro g (q | q) (z | z)
    · exact absurd (ty_ne (h.kb.ls.inb q) (h.kl.kp.ls.inb z)) (by decide)
    · exact absurd (ty_ne (h.kb.ls.inb q) (h.kl.kp.ls.row.atb z)) (by decide)
    · exact (h.dj g (Or.inl z)).1 q
    · exact absurd (ty_ne (h.kb.ls.row.atb q) (h.kl.kp.ls.row.atb z)) (by decide)
  have key : ∀ i, brB r a t i = Blk r.A r.ps ∧ i = 0 ∨ brB r a t i = Blk a.A a.ps ∧ i = 7 ∨ brB r a t i = Blk t.A t.ps ∧ i = 3 ∨ brB r a t i = fun _ => False := fun i => by
    match i with
    | 0 => exact Or.inl ⟨rfl, rfl⟩
    | 1 => exact Or.inr (Or.inr (Or.inr rfl))
    | 2 => exact Or.inr (Or.inr (Or.inr rfl))
    | 3 => exact Or.inr (Or.inr (Or.inl ⟨rfl, rfl⟩))
    | 4 => exact Or.inr (Or.inr (Or.inr rfl))
    | 5 => exact Or.inr (Or.inr (Or.inr rfl))
    | 6 => exact Or.inr (Or.inr (Or.inr rfl))
    | 7 => exact Or.inr (Or.inl ⟨rfl, rfl⟩)
    | n + 8 => exact Or.inr (Or.inr (Or.inr rfl))
  have sym : ∀ {F G : Nat → Prop}, Dj F G → Dj G F := fun d g x y => d g y x
  intro i j _ _ ne
  rcases key i with ⟨e, rfl⟩ | ⟨e, rfl⟩ | ⟨e, rfl⟩ | e <;> rcases key j with ⟨e', rfl⟩ | ⟨e', rfl⟩ | ⟨e', rfl⟩ | e' <;> first | exact absurd rfl ne | rw [e, e']
  · exact d01
  · exact d03
  · exact fun _ _ z => z
  · exact sym d01
  · exact sym d31
  · exact fun _ _ z => z
  · exact sym d03
  · exact d31
  · exact fun _ _ z => z
  · exact fun _ z _ => z
  · exact fun _ z _ => z
  · exact fun _ z _ => z
  · exact fun _ z _ => z
theorem LS.notBk {w : World} {gk base e sz rt n c : Nat} {A : Option Addr} {ps : List Slot} {css : List (List Value)} {bs : List Value} (h : LS w base e sz rt A n c ps css) (bk : Bk w gk bs) (n1 : 39 ≠ e) (n2 : 39 ≠ rt) : ¬ Blk A ps gk := by
  rintro (q | q)
  · exact n1 (ty_ne ⟨_, _, _, bk⟩ (h.inb q))
  · exact n2 (ty_ne ⟨_, _, _, bk⟩ (h.row.atb q))
theorem Finish_D {B gk : Nat} (base mb mi ml : Nat) (r s a b t u : Row) (xss : List (List UInt8)) (iss : List (List (Int × Int))) (pss qss : List (List Slot)) (xsss : List (List (List UInt8))) (w0 w : World) (hk : Bk w gk (bookD (r.v mb) (s.v mb) (t.v ml) (u.v ml) (a.v mi) (b.v mi))) (h : Ke w base mb mi ml r s a b t u xss iss pss qss xsss) (tb : Tb B w) (b0 : Out (fun g => g = gk ∨ base ≤ g) w0 w) (hBw : B ≤ w.heap.size) (hB : B ≤ base) (hg : B ≤ gk) (hb : base ≤ w.heap.size) (h1 : mb ≤ 400000) (h2 : mi ≤ 800000) (h3 : ml ≤ 400000)
    (l1 : ∀ xs ∈ xss, xs.length ≤ 900000) (l2 : ∀ xs ∈ iss, xs.length ≤ 900000) (l3 : ∀ ps ∈ pss, ps.length ≤ 900000) :
    Calls Tryz.prog 20 #[.pointer (some ⟨gk, 0, none⟩)] w fun e w' => e = .returned (.bool true) ∧ Out (fun g => g = gk ∨ base ≤ g) w0 w' := by
  have rd : Rdb (brF (gk := gk) base mb mi ml r s a b t u xss iss pss qss xsss hB h1 h2 h3) 0 (fun _ => nilV) (bookD (r.v mb) (s.v mb) (t.v ml) (u.v ml) (a.v mi) (b.v mi)) := ⟨rfl, rfl, fun i hi => by
    match i, hi with
    | 0, _ => exact ⟨rfl, rfl, rfl⟩
    | 1, _ => exact ⟨rfl, rfl, rfl⟩
    | 2, _ => exact ⟨rfl, rfl, rfl⟩
    | 3, _ => exact ⟨rfl, rfl, rfl⟩
    | 4, _ => exact ⟨rfl, rfl, rfl⟩
    | 5, _ => exact ⟨rfl, rfl, rfl⟩
    | 6, _ => exact ⟨rfl, rfl, rfl⟩
    | 7, _ => exact ⟨rfl, rfl, rfl⟩
    | 8, _ => exact ⟨rfl, rfl, rfl⟩
    | 9, _ => exact ⟨rfl, rfl, rfl⟩
    | 10, _ => exact ⟨rfl, rfl, rfl⟩
    | 11, _ => exact ⟨rfl, rfl, rfl⟩
    | 12, _ => exact ⟨rfl, rfl, rfl⟩
    | n + 13, h => exact absurd h (by omega)⟩
  refine Finish_G (brF (gk := gk) base mb mi ml r s a b t u xss iss pss qss xsss hB h1 h2 h3) w0 w hg ⟨_, hk, rd, fun i hi => ?_⟩ ⟨b0, _, brB r a t, hk, rd, hBw, fun i hi => ?_, h.djs, fun i hi => ?_⟩
  · match i, hi with
    | 0, _ => exact h.kb
    | 1, _ => exact trivial
    | 2, _ => exact trivial
    | 3, _ => exact h.kl
    | 4, _ => exact trivial
    | 5, _ => exact trivial
    | 6, _ => exact trivial
    | 7, _ => exact h.ki
    | 8, _ => exact trivial
    | 9, _ => exact trivial
    | 10, _ => exact trivial
    | 11, _ => exact trivial
    | 12, _ => exact trivial
    | n + 13, h => exact absurd h (by omega)
  · match i, hi with
    | 0, _ => exact ⟨fun g => Iff.rfl, hb, _, h.kb.ls, fun cs hc => by obtain ⟨xs, hx, rfl⟩ := List.mem_map.1 hc; rw [u8s_length]; have := l1 xs hx; omega, fun q e => by cases e⟩
    | 1, _ => exact fun g q => q
    | 2, _ => exact fun g q => q
    | 3, _ => exact ⟨tb, hb, fun g q => ⟨h.kl.kp.ls.lo q, h.kl.kp.ls.blk q⟩, fun g q => q, _, h.kl.kp.ls, fun cs hc => by obtain ⟨xs, hx, rfl⟩ := List.mem_map.1 hc; rw [List.length_map]; exact l3 xs hx, fun q e => by cases e⟩
    | 4, _ => exact fun g q => q
    | 5, _ => exact fun g q => q
    | 6, _ => exact fun g q => q
    | 7, _ => exact ⟨fun g => Iff.rfl, hb, _, h.ki.ls, fun cs hc => by obtain ⟨xs, hx, rfl⟩ := List.mem_map.1 hc; rw [kidCells_length]; have := l2 xs hx; omega, fun q e => by cases e⟩
    | 8, _ => exact fun g q => q
    | 9, _ => exact fun g q => q
    | 10, _ => exact fun g q => q
    | 11, _ => exact fun g q => q
    | 12, _ => exact fun g q => q
    | n + 13, h => exact absurd h (by omega)
  · match i, hi with
    | 0, _ => exact h.kb.ls.notBk hk (by decide) (by decide)
    | 1, _ => exact fun q => q
    | 2, _ => exact fun q => q
    | 3, _ => exact h.kl.kp.ls.notBk hk (by decide) (by decide)
    | 4, _ => exact fun q => q
    | 5, _ => exact fun q => q
    | 6, _ => exact fun q => q
    | 7, _ => exact h.ki.ls.notBk hk (by decide) (by decide)
    | 8, _ => exact fun q => q
    | 9, _ => exact fun q => q
    | 10, _ => exact fun q => q
    | 11, _ => exact fun q => q
    | 12, _ => exact fun q => q
    | n + 13, h => exact absurd h (by omega)
end Go.Proofs.YtmeakhiiebeneaaGreatDoor
