/- coppicelaw4.LeafOwn: the walk. -/
import Derived.Test.YtmeakhiiebeneaaGreatDoorJgT
import Derived.Test.YtmeakhiiebeneaaGreatDoorFr
namespace Go.Proofs.YtmeakhiiebeneaaGreatDoor
open Go.RowKit

theorem LS.lower {w : World} {base base' e sz rt n c : Nat} {A : Option Addr} {ps : List Slot} {css : List (List Value)} (h : LS w base e sz rt A n c ps css) (hb : base' ≤ base) : LS w base' e sz rt A n c ps css :=
  ⟨GC.lower h.row hb, h.len, fun j p cs h1 h2 => GC.lower (h.each j p cs h1 h2) hb, h.inc⟩
theorem Kp.lower {w : World} {base base' e sz rt m : Nat} {r s : Row} {css dss : List (List Value)} (h : Kp w base e sz rt m r s css dss) (hb : base' ≤ base) : Kp w base' e sz rt m r s css dss := ⟨h.ls.lower hb, h.lw.lower hb, h.ap⟩
theorem Ki.lower {w : World} {base base' m : Nat} {t u : Row} {tss uss : List (List Cel)} (h : Ki w base m t u tss uss) (hb : base' ≤ base) : Ki w base' m t u tss uss :=
  ⟨h.kp.lower hb, fun zs hz z q => ⟨GC.lower (h.e1 zs hz z q).1 hb, GC.lower (h.e1 zs hz z q).2 hb⟩, fun zs hz z q => ⟨GC.lower (h.e2 zs hz z q).1 hb, GC.lower (h.e2 zs hz z q).2 hb⟩, h.eq⟩
/-- rows of the law's own, none of the book's. -/
def DjR (A : Option Addr) (r s : Row) : Prop := ∀ g, AtB A g → ¬ AtB r.A g ∧ ¬ AtB s.A g
/-- a list of lists of bytes of the law's own stays where the book is written. -/
theorem LS.keepB {w w' : World} {gk base b m n c : Nat} {r s : Row} {A : Option Addr} {ps : List Slot} {css cs1 ds1 : List (List Value)} {bs : List Value} (h : LS w b 5 1 40 A n c ps css) (k : Kp w base 5 1 40 m r s cs1 ds1) (bk : Bk w gk bs) (d : DjR A r s) (ou : Out (Rws gk r.A s.A) w w') : LS w' b 5 1 40 A n c ps css :=
  h.out ou (fun g q => by
    rintro (rfl | z | z)
    · exact absurd (ty_ne ⟨_, _, _, bk⟩ (h.row.atb q)) (by decide)
    · exact (d g q).1 z
    · exact (d g q).2 z) (fun g q => by
    rintro (rfl | z | z)
    · exact absurd (ty_ne ⟨_, _, _, bk⟩ (h.inb q)) (by decide)
    · exact absurd (ty_ne (k.ls.row.atb z) (h.inb q)) (by decide)
    · exact absurd (ty_ne (k.lw.row.atb z) (h.inb q)) (by decide))
def RwI (gk : Nat) (r s t u : Row) (g : Nat) : Prop := Rws gk r.A s.A g ∨ AtB t.A g ∨ AtB u.A g
theorem GC.keepI {w w' : World} {gk base m mt b e' sz' n c : Nat} {r s t u : Row} {A : Option Addr} {cs : List Value} {cs1 ds1 cs2 ds2 : List (List Value)} {bv : List Value} (h : GC w b e' sz' A n c cs) (k : Kp w base 5 1 40 m r s cs1 ds1) (kt : Kp w base 133 4 89 mt t u cs2 ds2) (bk : Bk w gk bv) (ou : Out (RwI gk r s t u) w w') (n1 : 39 ≠ e') (n2 : 40 ≠ e') (n3 : 89 ≠ e') : GC w' b e' sz' A n c cs :=
  h.out ou fun g q => by
    rintro ((rfl | z | z) | z | z)
    · exact n1 (ty_ne ⟨_, _, _, bk⟩ (h.atb q))
    · exact n2 (ty_ne (k.ls.row.atb z) (h.atb q))
    · exact n2 (ty_ne (k.lw.row.atb z) (h.atb q))
    · exact n3 (ty_ne (kt.ls.row.atb z) (h.atb q))
    · exact n3 (ty_ne (kt.lw.row.atb z) (h.atb q))
theorem OT.keepI {w w' : World} {gk base m mt b n c : Nat} {r s t u : Row} {A : Option Addr} {zs : List Cel} {cs1 ds1 cs2 ds2 : List (List Value)} {bv : List Value} (h : OT w b A n c zs) (k : Kp w base 5 1 40 m r s cs1 ds1) (kt : Kp w base 133 4 89 mt t u cs2 ds2) (bk : Bk w gk bv) (ou : Out (RwI gk r s t u) w w') : OT w' b A n c zs :=
  ⟨GC.keepI h.row k kt bk ou (by decide) (by decide) (by decide), fun z hz => ⟨GC.keepI (h.each z hz).1 k kt bk ou (by decide) (by decide) (by decide), GC.keepI (h.each z hz).2 k kt bk ou (by decide) (by decide) (by decide)⟩, h.inc⟩
theorem LS.keepI {w w' : World} {gk base b m mt n c : Nat} {r s t u : Row} {A : Option Addr} {ps : List Slot} {css cs1 ds1 cs2 ds2 : List (List Value)} {bv : List Value} (h : LS w b 5 1 40 A n c ps css) (k : Kp w base 5 1 40 m r s cs1 ds1) (kt : Kp w base 133 4 89 mt t u cs2 ds2) (bk : Bk w gk bv) (d : DjR A r s) (ou : Out (RwI gk r s t u) w w') : LS w' b 5 1 40 A n c ps css :=
  ⟨h.row.out ou (fun g q => by
    rintro ((rfl | z | z) | z | z)
    · exact absurd (ty_ne ⟨_, _, _, bk⟩ (h.row.atb q)) (by decide)
    · exact (d g q).1 z
    · exact (d g q).2 z
    · exact absurd (ty_ne (kt.ls.row.atb z) (h.row.atb q)) (by decide)
    · exact absurd (ty_ne (kt.lw.row.atb z) (h.row.atb q)) (by decide)), h.len, fun j p cs h1 h2 => GC.keepI (h.each j p cs h1 h2) k kt bk ou (by decide) (by decide) (by decide), h.inc⟩
theorem Out.rwiBelow {w w' : World} {gk B base m mt : Nat} {r s t u : Row} {cs1 ds1 cs2 ds2 : List (List Value)} (ou : Out (RwI gk r s t u) w w') (k : Kp w base 5 1 40 m r s cs1 ds1) (kt : Kp w base 133 4 89 mt t u cs2 ds2) (hB : B ≤ w.heap.size) (h1 : B ≤ gk) (h2 : B ≤ base) : Below B w w' :=
  ou.below hB fun g q => by
    rcases q with (rfl | ⟨a, ea, rfl⟩ | ⟨a, ea, rfl⟩) | ⟨a, ea, rfl⟩ | ⟨a, ea, rfl⟩
    · exact h1
    · exact Nat.le_trans h2 (k.ls.row.lt a ea).2
    · exact Nat.le_trans h2 (k.lw.row.lt a ea).2
    · exact Nat.le_trans h2 (kt.ls.row.lt a ea).2
    · exact Nat.le_trans h2 (kt.lw.row.lt a ea).2
/-- the book's lists of bytes stay where a row of the law's own is written. -/
theorem Kp.rowed {w w' : World} {base b m n c : Nat} {r s : Row} {A : Option Addr} {ps : List Slot} {css cs1 ds1 : List (List Value)} (k : Kp w base 5 1 40 m r s cs1 ds1) (h : LS w b 5 1 40 A n c ps css) (d : DjR A r s) (gx : w.grownBy w' (A.map (·.block))) : Kp w' base 5 1 40 m r s cs1 ds1 := by
  have ou : Out (AtB A) w w' := (Out.refl _ w).grow gx fun g hg => by
    cases A with
    | none => cases hg
    | some a =>
      simp only [Option.map_some, Option.some.injEq] at hg
      exact Or.inl ⟨a, rfl, hg⟩
  exact ⟨k.ls.out ou (fun g q z => (d g z).1 q) (fun g q z => absurd (ty_ne (h.row.atb z) (k.ls.inb q)) (by decide)), k.lw.out ou (fun g q z => (d g z).2 q) (fun g q z => absurd (ty_ne (h.row.atb z) (k.lw.inb q)) (by decide)), k.ap⟩
theorem DjR.next {A : Option Addr} {r s r' s' : Row} {S : Nat} (d : DjR A r s) (hA : ∀ g, AtB A g → g < S) (n1 : ∀ g, AtB r'.A g → AtB r.A g ∨ S ≤ g) (n2 : ∀ g, AtB s'.A g → AtB s.A g ∨ S ≤ g) : DjR A r' s' := fun g q => by
  have := hA g q
  exact ⟨fun z => (n1 g z).elim (d g q).1 (by omega), fun z => (n2 g z).elim (d g q).2 (by omega)⟩
theorem DjR.row {A A' : Option Addr} {r s : Row} {S : Nat} (d : DjR A r s) (h1 : ∀ g, AtB r.A g → g < S) (h2 : ∀ g, AtB s.A g → g < S) (n : ∀ g, AtB A' g → AtB A g ∨ S ≤ g) : DjR A' r s := fun g q => by
  rcases n g q with z | z
  · exact d g z
  · exact ⟨fun y => by have := h1 g y; omega, fun y => by have := h2 g y; omega⟩
theorem kvs_len {zs : List Cel} (h : ShT (its zs)) : ∀ xs ∈ kvs zs, xs.length ≤ 900000 := by
  intro xs hx
  unfold kvs at hx
  obtain ⟨z, hz, hq⟩ := List.mem_flatMap.1 hx
  have := h.s z.x (by unfold its; exact List.mem_map.2 ⟨z, hz, rfl⟩)
  simp only [List.mem_cons, List.not_mem_nil, or_false] at hq
  rcases hq with rfl | rfl <;> omega
theorem len_app {xss yss : List (List UInt8)} {K : Nat} (h : ∀ xs ∈ xss, xs.length ≤ K) (k : ∀ xs ∈ yss, xs.length ≤ K) : ∀ xs ∈ xss ++ yss, xs.length ≤ K := fun xs hx => by
  rcases List.mem_append.1 hx with q | q
  · exact h xs q
  · exact k xs q
theorem zlen_app {tss : List (List Cel)} {zs : List Cel} {K : Nat} (h : ∀ ys ∈ tss, ys.length ≤ K) (k : zs.length ≤ K) : ∀ ys ∈ tss ++ [zs], ys.length ≤ K := fun ys hy => by
  rcases List.mem_append.1 hy with q | q
  · exact h ys q
  · rw [List.mem_singleton] at q; rw [q]; exact k
theorem ShT.nil : ShT [] := ⟨fun x h => by cases h⟩
theorem OT.slots_lt {w : World} {base n c : Nat} {A : Option Addr} {zs : List Cel} (h : OT w base A n c zs) {S : Nat} {ps : List Slot} (hp : ∀ p ∈ ps, ∀ a, p.1 = some a → a.block < S) (hS : S ≤ base) : ∀ p ∈ ps, ∀ q ∈ slots zs, ∀ a b, p.1 = some a → q.1 = some b → a.block ≠ b.block := fun p hp' q hq a b ha hb => by
  have h1 := hp p hp' a ha
  have h2 := (h.lt q hq b hb).2
  omega
/-- what Decode answers here: the items, or none. -/
def DecD (B : List UInt8) (D : List It) : Prop := decT B = some D ∨ (decT B = none ∧ D = [])
theorem DecOut.fin {B : List UInt8} {w w' : World} {en : Ending} {D : List It} (q : DecOut B w en w') (h : DecD B D) : ∃ (zs : List Cel) (A : Option Addr) (n c : Nat) (k : Int), en = .returned (.tuple #[.slice A n c, .int .i64 k]) ∧ OT w' w.heap.size A n c zs ∧ its zs = D ∧ Below w.heap.size w w' := by
  rcases h with h | ⟨h, rfl⟩
  · obtain ⟨zs, A, n, c, e, o, hz, b⟩ := q.someT h
    exact ⟨zs, A, n, c, _, e, o, hz, b⟩
  · obtain ⟨A, c, zs, e, o, hz, b⟩ := q.noneT h
    exact ⟨zs, A, 0, c, _, e, o, hz, b⟩
theorem enc_dec (l : List It) : ∃ D, DecD (encT l).1 D ∧ (D = l ∨ D = []) := by
  unfold encT
  split
  · rename_i h
    exact ⟨l, Or.inl (decT_body h), Or.inl rfl⟩
  · exact ⟨[], Or.inr ⟨by unfold decT; rw [if_neg (by simp)], rfl⟩, Or.inr rfl⟩
theorem enc_len (l : List It) : (encT l).1.length ≤ 4092 := by
  unfold encT
  split
  · rename_i h
    have := (decT_some (decT_body h)).2.2.2
    simp only; omega
  · simp

set_option maxRecDepth 100000 in
set_option maxHeartbeats 16000000 in
theorem LeafOwn_walk (A : Option Addr) (n c : Nat) (vs : List Value) (l : List It) (w : World) (h : RT w A n c vs l) :
    Calls Tryz.prog 7 #[.slice A n c] w fun e w' => e = .returned (.bool true) ∧ Below w.heap.size w w' := by
  have F1 := fun W q => short_calls A n c vs l W q
  obtain ⟨f, hf⟩ : ∃ f, shortT l = f := ⟨_, rfl⟩
  rw [hf] at F1
  have HF := hideIt hf
  clear hf
  go_enter Tryz.func7, Tryz.ntmps7
  go_upto_region 2 with (go_at_call 55; refine (first_calls _).mono ?_; rintro en w1 ⟨rfl, b1⟩)
  have h1 := h.below b1
  have HLEN := hideIt h.len
  clear h
  by_cases hn : 40 < n
  · have t1 : decide ((40 : Int) < (n : Int)) = true := decide_eq_true (by omega)
    clear F1
    go_wp2
    go_ret
    exact ⟨rfl, b1⟩
  have t1 : decide ((40 : Int) < (n : Int)) = false := decide_eq_false (by omega)
  cases f
  · go_wp2_with (go_at_call 56; refine (F1 _ h1).mono ?_; rintro en wx ⟨rfl, rfl⟩)
    go_ret
    exact ⟨rfl, b1⟩
  have SHL : Hid (ShT l) := hideIt ⟨(short_of HF.out).2⟩
  go_upto_region 4 with (go_at_call 56; refine (F1 _ h1).mono ?_; rintro en wx ⟨rfl, rfl⟩)
  clear F1 HF t1
  have x3 := below1 w1 bookO
  have B3 := Bk.new w1
  have z3 : w1.heap.size + 1 ≤ (w1.alloc bookO).heap.size := by simp
  have b2 := b1.trans (x3.mono b1.size)
  have hgk := b1.size
  have h2 := h1.below x3
  go_upto_region 5 with (refine wp_book rfl ?_)
  change Code.wp _ _ _ _ (w1.alloc bookO)
  generalize w1.alloc bookO = w2 at *
  generalize w1.heap.size = gk at *
  clear x3 b1 w1 h1
  go_upto_region 6 with (go_at_call 57; refine (Items_calls _ _ _ _ _ _ h2 (by omega) SHL.out).mono ?_; rintro en w3 ⟨gm, cm, zm, rfl, om, hzm, x3⟩)
  have B4 := B3.below x3
  have z4 := Nat.le_trans z3 x3.size
  have b3 := b2.trans (x3.mono b2.size)
  replace om := om.lower z3
  have gml := (om.row.lt ⟨gm, 0, none⟩ rfl).1
  simp only at gml
  clear h2 B3 z3 b2 x3 w2
  obtain ⟨S, hS⟩ : ∃ S, w3.heap.size = S := ⟨_, rfl⟩
  have HZM := hideIt hzm
  have hgm : gm < S := by omega
  have hgkS : gk + 1 ≤ S := by omega
  have hwS : w.heap.size ≤ S := by omega
  have OML : Hid (∀ q ∈ slots zm, ∀ a, q.1 = some a → a.block < S) := hideIt fun q hq a e => by have := (om.lt q hq a e).1; omega
  obtain ⟨D, hD, hDl⟩ := enc_dec l
  have HD := hideIt hD
  have hE := enc_len l
  obtain ⟨xb, xe, hxe⟩ : ∃ b e, encT l = (b, e) := ⟨_, _, rfl⟩
  have ENC := fun W q => Encode_calls (some ⟨gm, 0, none⟩) n cm (itvs zm) l W q (by omega)
  rw [hxe] at ENC hE HD
  simp only at hE HD
  have DN : Hid (ShT D ∧ D.length ≤ 40) := hideIt (by
    rcases hDl with rfl | rfl
    · exact ⟨SHL.out, by rw [HLEN.out]; omega⟩
    · exact ⟨ShT.nil, by simp⟩)
  have hb4 : Bk w3 gk (bookT 0 (Row.no.v 0) (Row.no.v 0) nilV (Row.no.v 0) (Row.no.v 0) nilV) := B4
  clear hxe hD hDl hzm B4
  go_upto_region 8 with fail
  go_loopw [6, 7] (fun bb ii wr => ∃ (i cb : Nat) (Ab : Option Addr) (r s : Row) (bps : List Slot) (bcs : List (List Value)) (xss : List (List UInt8)), i ≤ 3 ∧ bb = .slice Ab i cb ∧ ii = .int .i64 (i : Int) ∧ Bk wr gk (bookT 0 (r.v i) (s.v i) nilV (Row.no.v 0) (Row.no.v 0) nilV) ∧ Kp wr S 5 1 40 i r s (xss.map u8s) (xss.map u8s) ∧ LS wr S 5 1 40 Ab i cb bps bcs ∧ Hid (DjR Ab r s) ∧ Hid ((∀ cs ∈ bcs, cs = u8s xb) ∧ (∀ xs ∈ xss, xs.length ≤ 900000)) ∧ OT wr (gk + 1) (some ⟨gm, 0, none⟩) n cm zm ∧ S ≤ wr.heap.size ∧ Below w.heap.size w wr)
    (fun _ ii _ => 3 - (intOf ii).toNat)
  case atStart => exact ⟨0, 0, none, Row.no, Row.no, [], [], [], by omega, rfl, rfl, hb4, Kp.no _ _ _ _ _, LS.nil _ _ _ _ _, hideIt (fun g q => by obtain ⟨a, e, _⟩ := q; cases e), hideIt ⟨(fun cs h => by cases h), (fun xs h => by cases h)⟩, om, by omega, b3⟩
  case round =>
    clear hb4 om b3 hS z4 gml w3
    obtain ⟨i, cb, Ab, r, s, bps, bcs, xss, hi, rfl, rfl, bk, kp, ls, DJ, HX, om, zr, b⟩ := hrel
    by_cases hi3 : i < 3
    · have i1 : (i : Int) < 3 := by omega
      have rm : RT wr (some ⟨gm, 0, none⟩) n cm (itvs zm) l := by rw [← HZM.out]; exact om.read
      go_upto_region 11 with (go_at_call 58; (with_reducible refine (ENC _ rm).mono ?_); rintro en w1 ⟨A1, n1, rfl, g1, x1⟩)
      have NE := hideIt (kp.ls.fresh (Nat.le_refl _) (fun z ez => (GB.lt g1 z ez).2))
      have l1 : n1 ≤ 4092 := by have := (GB.read g1).len; omega
      replace bk := bk.below x1
      replace kp := kp.below x1
      replace ls := ls.below x1
      replace om := om.below x1
      replace g1 := GC.lower g1 zr
      have zr1 := Nat.le_trans zr x1.size
      have b1 := b.trans (x1.mono b.size)
      clear rm x1 zr b
      have BY := Bytes_v gk S i _ r s xss A1 n1 n1 xb w1 bk rfl rfl kp g1 NE.out (by omega) (by omega) zr1
      go_upto_region 12 with (go_at_call 19; (with_reducible refine BY.mono ?_); intro en w2 q; obtain ⟨⟨v2, rfl⟩, k2⟩ := q)
      have ou2 := k2.out
      have zl := hideIt (show ∀ g, AtB Ab g → g < w1.heap.size from fun g q => by obtain ⟨a, ea, rfl⟩ := q; exact (ls.row.lt a ea).1)
      replace ls := ls.keepB kp bk DJ.out ou2
      replace om := om.apartK kp bk ou2 (by decide) (by decide)
      replace g1 := kp.keepGC bk ou2 g1 (by decide) (by decide)
      have b2 := b1.trans (ou2.rwsBelow kp b1.size hgk hwS)
      have zr2 := Nat.le_trans zr1 ou2.size
      obtain ⟨r2, s2, p2, bk2, kp2, -, -, -, y1, y2, -⟩ := k2
      have DJ2 := hideIt (DJ.out.next zl.out y1 y2)
      have bk2' : Bk w2 gk (bookT 0 (r2.v (i + 1)) (s2.v (i + 1)) nilV (Row.no.v 0) (Row.no.v 0) nilV) := bk2
      have e0 : xss.map u8s ++ [u8s xb] = (xss ++ [xb]).map u8s := by rw [List.map_append]; rfl
      rw [e0] at kp2
      have HX2 := hideIt (show _ ∧ _ from ⟨HX.out.1, len_app HX.out.2 (yss := [xb]) (fun xs hx => by rw [List.mem_singleton] at hx; rw [hx]; omega)⟩)
      have g1r : RB w2 A1 n1 n1 xb := GB.read g1
      clear BY ou2 y1 y2 e0 bk2 bk kp DJ zl b1 zr1 NE HX w1
      go_wp2_with (first
        | (with_reducible refine wpMx_app rfl (.tmp 46) (.tmp 49) rfl S _ _ _ _ rfl ls5.row _ (some ⟨g4, 0, none⟩, n1, c4) rfl R5 (by omega) z5 ?_; intro g6 c6 w6 q6 Q6 o6 k6)
        | (go_at_call 22; (with_reducible refine (Bytes_calls _ _ _ _ _ g1r (by omega)).mono ?_); rintro en w4 ⟨g4, c4, rfl, s4, o4, x4⟩; have x5 := blw_step x4 (below1 w4 (.cells #[.slice (some ⟨g4, 0, none⟩) n1 c4] 40)); have ls5 := ls.below x5; have kp5 := kp2.below x5; have om5 := om.below x5; have bk5 := bk2'.below x5; have o5 := o4.below (below1 w4 (.cells #[.slice (some ⟨g4, 0, none⟩) n1 c4] 40)); have R5 := sv_cell w4 (some ⟨g4, 0, none⟩, n1, c4); have z5 := Nat.le_trans zr2 x5.size; have b5 := b2.trans (x5.mono b2.size); have NE5 := hideIt (ls.fresh (B := some ⟨g4, 0, none⟩) (Nat.le_refl _) (fun z ez => by cases ez; exact s4))))
      have ls6 := ls5.push (by decide) (GB.of o5 (Nat.le_trans zr2 s4)) NE5.out k6 o6 q6
      have kp6 := kp5.rowed ls5 DJ2.out k6
      have bk6 : Bk w6 gk (bookT 0 (r2.v (i + 1)) (s2.v (i + 1)) nilV (Row.no.v 0) (Row.no.v 0) nilV) := OC.apart bk5 ls5.row k6 (by decide)
      have om6 : OT w6 (gk + 1) (some ⟨gm, 0, none⟩) n cm zm := ⟨GC.apart om5.row ls5.row k6 (by decide), fun z hz => ⟨GC.apart (om5.each z hz).1 ls5.row k6 (by decide), GC.apart (om5.each z hz).2 ls5.row k6 (by decide)⟩, om5.inc⟩
      have DJ6 := hideIt (DJ2.out.row (A' := some ⟨g6, 0, none⟩) (fun g q => by obtain ⟨a, ea, rfl⟩ := q; exact (kp5.ls.row.lt a ea).1) (fun g q => by obtain ⟨a, ea, rfl⟩ := q; exact (kp5.lw.row.lt a ea).1) (fun g q => by
        obtain ⟨a, ea, rfl⟩ := q
        cases ea
        rcases Q6 with ⟨b, z, e2⟩ | z
        · exact Or.inl ⟨b, z, e2.symm⟩
        · exact Or.inr z))
      have b6 := GC.under (ls5.row.lower hwS) b5 k6 b5.size
      have zr6 := Nat.le_trans z5 k6.size
      have HX6 := hideIt (show (∀ cs ∈ bcs ++ [u8s xb], cs = u8s xb) ∧ _ from ⟨fun cs hc => by
        rcases List.mem_append.1 hc with q | q
        · exact HX2.out.1 cs q
        · rw [List.mem_singleton] at q; exact q, HX2.out.2⟩)
      clear ls5 kp5 om5 bk5 o5 R5 z5 b5 NE5 x5 k6 o6 Q6 DJ2 HX2 ls om g1 g1r kp2 bk2' zr2 b2 x4 o4
      go_roundw
      case rel => exact ⟨i + 1, c6, _, r2, s2, _, _, _, by omega, rfl, by go_num, bk6, kp6, ls6, DJ6, HX6, om6, zr6, b6⟩
      case measure => simp [intOf]; omega
    · obtain rfl : i = 3 := by omega
      clear ENC
      go_upto_region 14 with fail
      rw [show ((3 : Nat) : Int) = 3 from rfl]
      have HX0 := hideIt HX.out.1
      have KI0 : Ki wr S 0 Row.no Row.no [] [] := Ki.no _ _
      have HX1 := hideIt (show (∀ xs ∈ xss, xs.length ≤ 900000) ∧ (∀ zs ∈ ([] : List (List Cel)), zs.length ≤ 900000) from ⟨HX.out.2, fun zs h => by cases h⟩)
      go_loopw [10] (fun ii wk => ∃ (i M mt : Nat) (r s t u : Row) (xss : List (List UInt8)) (tss uss : List (List Cel)), i ≤ 3 ∧ Hid (M ≤ 3 + 161 * i ∧ mt = 2 * i) ∧ ii = .int .i64 (i : Int) ∧ Bk wk gk (bookT 0 (r.v M) (s.v M) nilV (t.v mt) (u.v mt) nilV) ∧ Kp wk S 5 1 40 M r s (xss.map u8s) (xss.map u8s) ∧ Ki wk S mt t u tss uss ∧ LS wk S 5 1 40 Ab 3 cb bps bcs ∧ Hid (DjR Ab r s) ∧ Hid ((∀ xs ∈ xss, xs.length ≤ 900000) ∧ (∀ zs ∈ tss, zs.length ≤ 900000)) ∧ OT wk (gk + 1) (some ⟨gm, 0, none⟩) n cm zm ∧ S ≤ wk.heap.size ∧ Below w.heap.size w wk)
        (fun ii _ => 3 - (intOf ii).toNat)
      case atStart => exact ⟨0, 3, 0, r, s, Row.no, Row.no, xss, [], [], by omega, hideIt ⟨by omega, rfl⟩, rfl, bk, kp, KI0, ls, DJ, HX1, om, zr, b⟩
      case round =>
        clear bk kp KI0 ls DJ HX1 HX om zr b r s xss hi hi3
        obtain ⟨i, M, mt, r, s, t, u, xss, tss, uss, hi, HM, rfl, bk, kp, ki, ls, DJ, HX, om, zr, b⟩ := hrel
        by_cases hi3 : i < 3
        · have i1 : (i : Int) < 3 := by omega
          obtain ⟨gr, ⟨A0, n0, c0⟩, cs, rfl, orow, hq, hc, cell, gc⟩ := ls.at_ i hi3
          obtain rfl := HX0.out cs (List.mem_of_getElem? hc)
          simp only at cell gc
          have rb : RB wr A0 n0 c0 xb := GC.read gc
          have l0 : n0 ≤ 4092 := by have := rb.len; omega
          have LT0 := hideIt (show ∀ p ∈ r.ps, ∀ a, p.1 = some a → a.block < wr.heap.size from fun p hp a ha => (kp.ls.lt p hp a ha).1)
          have LTT := hideIt (show ∀ p ∈ t.ps, ∀ a, p.1 = some a → a.block < wr.heap.size from fun p hp a ha => (ki.kp.ls.lt p hp a ha).1)
          clear orow hq hc gc
          go_upto_region 17 with (go_at_call 22; (with_reducible refine (Bytes_calls _ _ _ _ _ rb (by omega)).mono ?_); rintro en w1 ⟨gi, ci, rfl, si, oi, x1⟩)
          have zi : gi < w1.heap.size := oi.lt
          have ri : RB w1 (some ⟨gi, 0, none⟩) n0 ci xb := oi.read
          have gi' : GC w1 S 5 1 (some ⟨gi, 0, none⟩) n0 ci (u8s xb) := GC.of oi (Nat.le_trans zr si)
          have h1 := x1.size
          replace bk := bk.below x1
          replace kp := kp.below x1
          replace ki := ki.below x1
          replace ls := ls.below x1
          replace om := om.below x1
          have zr1 := Nat.le_trans zr x1.size
          have b1 := b.trans (x1.mono b.size)
          clear x1 b zr cell rb oi
          go_upto_region 18 with (go_at_call 59; refine (Decode_calls _ _ _ _ _ ri).mono ?_; intro en w2 q; obtain ⟨z1, A1, n1, c1, e1, rfl, ot1, hz1, x2⟩ := q.fin HD.out; clear q)
          have NT1 := hideIt (show ∀ p ∈ t.ps, ∀ a b, p.1 = some a → A1 = some b → a.block ≠ b.block from fun p hp a b ha hb => by have := LTT.out p hp a ha; have := (ot1.row.lt b hb).2; omega)
          have NE1 := hideIt (ot1.slots_lt LT0.out h1)
          have SI1 := hideIt (show ∀ q ∈ slots z1, ∀ a, q.1 = some a → a.block ≠ gi ∧ a.block < w2.heap.size from fun q hq a ha => by have := ot1.lt q hq a ha; omega)
          have AT1 := hideIt (show ∀ a, A1 = some a → a.block < w2.heap.size from fun a ha => (ot1.row.lt a ha).1)
          have l1 : n1 ≤ 40 := by have h1 := ot1.n; have h2 := DN.out.2; rw [← hz1, its_length] at h2; omega
          have Z1L := hideIt ot1.n
          have SH1 := hideIt (show ShT (its z1) from hz1 ▸ DN.out.1)
          replace ot1 := ot1.lower zr1
          replace ri := ri.below x2
          replace gi' := GC.below gi' x2
          have h2 := x2.size
          replace bk := bk.below x2
          replace kp := kp.below x2
          replace ki := ki.below x2
          replace ls := ls.below x2
          replace om := om.below x2
          have zr2 := Nat.le_trans zr1 x2.size
          have b2 := b1.trans (x2.mono b1.size)
          clear x2 b1 zr1 hz1
          go_upto_region 19 with (go_at_call 59; refine (Decode_calls _ _ _ _ _ ri).mono ?_; intro en w3 q; obtain ⟨z2, A2, n2, c2, e2, rfl, ot2, hz2, x3⟩ := q.fin HD.out; clear q)
          have NT2 := hideIt (show ∀ p ∈ t.ps ++ [(A1, n1, c1)], ∀ a b, p.1 = some a → A2 = some b → a.block ≠ b.block from fun p hp a b ha hb => by
            have h3 := (ot2.row.lt b hb).2
            rcases List.mem_append.1 hp with q | q
            · have := LTT.out p q a ha; omega
            · rw [List.mem_singleton] at q; subst q; have := AT1.out a ha; omega)
          have NE2 := hideIt (ot2.slots_lt (ps := r.ps ++ slots z1) (S := w2.heap.size) (fun p hp a ha => by
            rcases List.mem_append.1 hp with q | q
            · have := LT0.out p q a ha; omega
            · exact (SI1.out p q a ha).2) (Nat.le_refl _))
          have SI2 := hideIt (show ∀ q ∈ slots z2, ∀ a, q.1 = some a → a.block ≠ gi from fun q hq a ha => by have := (ot2.lt q hq a ha).2; omega)
          have l2 : n2 ≤ 40 := by have h1 := ot2.n; have h2 := DN.out.2; rw [← hz2, its_length] at h2; omega
          have Z2L := hideIt ot2.n
          have SH2 := hideIt (show ShT (its z2) from hz2 ▸ DN.out.1)
          replace ot2 := ot2.lower zr2
          replace ot1 := ot1.below x3
          replace gi' := GC.below gi' x3
          replace bk := bk.below x3
          replace kp := kp.below x3
          replace ki := ki.below x3
          replace ls := ls.below x3
          replace om := om.below x3
          have zr3 := Nat.le_trans zr2 x3.size
          have b3 := b2.trans (x3.mono b2.size)
          have hm2 := HM.out
          clear x3 b2 zr2 ri hz2
          have IT := Items_v gk S M mt _ r s t u xss tss uss A1 n1 c1 z1 w3 bk rfl rfl rfl rfl kp ki ot1 NE1.out NT1.out (by omega) SH1.out (by omega) (by omega) zr3
          go_upto_region 20 with (go_at_call 60; (with_reducible refine IT.mono ?_); intro en w4 q; obtain ⟨⟨v4, rfl⟩, k4⟩ := q)
          obtain ⟨r4, s4, t4, u4, z1', bk4, kp4, ki4, e4, f4, y1, y2, ou4⟩ := k4
          have ou4' : Out (RwI gk r s t u) w3 w4 := ou4
          have zl := hideIt (show ∀ g, AtB (some (⟨gr, 0, none⟩ : Addr)) g → g < w3.heap.size from fun g q => by obtain ⟨a, ea, rfl⟩ := q; exact (ls.row.lt a ea).1)
          replace ls := ls.keepI kp ki.kp bk DJ.out ou4'
          replace om := om.keepI kp ki.kp bk ou4'
          replace ot2 := ot2.keepI kp ki.kp bk ou4'
          replace gi' := GC.keepI gi' kp ki.kp bk ou4' (by decide) (by decide) (by decide)
          have b4 := b3.trans (ou4'.rwiBelow kp ki.kp b3.size hgk hwS)
          have zr4 := Nat.le_trans zr3 ou4'.size
          have DJ4 := hideIt (DJ.out.next zl.out y1 y2)
          have bk4' : Bk w4 gk (bookT 0 (r4.v (M + 2 * n1)) (s4.v (M + 2 * n1)) nilV (t4.v (mt + 1)) (u4.v (mt + 1)) nilV) := bk4
          have NE4 := hideIt (show ∀ p ∈ r4.ps, ∀ q ∈ slots z2, ∀ a b, p.1 = some a → q.1 = some b → a.block ≠ b.block by rw [e4]; exact NE2.out)
          have NT4 := hideIt (show ∀ p ∈ t4.ps, ∀ a b, p.1 = some a → A2 = some b → a.block ≠ b.block by rw [f4]; exact NT2.out)
          have E4 := hideIt e4
          clear IT bk bk4 kp ki ou4 ou4' y1 y2 zl DJ e4 f4 zr3 b3 NE1 NE2 NT1 NT2 ot1 w3
          have IT := Items_v gk S (M + 2 * n1) (mt + 1) _ r4 s4 t4 u4 (xss ++ kvs z1) (tss ++ [z1]) (uss ++ [z1']) A2 n2 c2 z2 w4 bk4' rfl rfl rfl rfl kp4 ki4 ot2 NE4.out NT4.out (by omega) SH2.out (by omega) (by omega) zr4
          go_upto_region 21 with (go_at_call 60; (with_reducible refine IT.mono ?_); intro en w5 q; obtain ⟨⟨v5, rfl⟩, k5⟩ := q)
          obtain ⟨r5, s5, t5, u5, z2', bk5, kp5, ki5, e5, f5, y1, y2, ou5⟩ := k5
          have ou5' : Out (RwI gk r4 s4 t4 u4) w4 w5 := ou5
          have zl := hideIt (show ∀ g, AtB (some (⟨gr, 0, none⟩ : Addr)) g → g < w4.heap.size from fun g q => by obtain ⟨a, ea, rfl⟩ := q; exact (ls.row.lt a ea).1)
          replace ls := ls.keepI kp4 ki4.kp bk4' DJ4.out ou5'
          replace om := om.keepI kp4 ki4.kp bk4' ou5'
          replace gi' := GC.keepI gi' kp4 ki4.kp bk4' ou5' (by decide) (by decide) (by decide)
          have b5 := b4.trans (ou5'.rwiBelow kp4 ki4.kp b4.size hgk hwS)
          have zr5 := Nat.le_trans zr4 ou5'.size
          have DJ5 := hideIt (DJ4.out.next zl.out y1 y2)
          have bk5' : Bk w5 gk (bookT 0 (r5.v (M + 2 * n1 + 2 * n2)) (s5.v (M + 2 * n1 + 2 * n2)) nilV (t5.v (mt + 1 + 1)) (u5.v (mt + 1 + 1)) nilV) := bk5
          have NE5 := hideIt (show ∀ p ∈ r5.ps, ∀ a b, p.1 = some a → (some ⟨gi, 0, none⟩ : Option Addr) = some b → a.block ≠ b.block from fun p hp a b ha hb => by
            cases hb
            rw [e5, E4.out] at hp
            rcases List.mem_append.1 hp with q | q
            · rcases List.mem_append.1 q with q | q
              · have := LT0.out p q a ha; simp only; omega
              · exact (SI1.out p q a ha).1
            · exact SI2.out p q a ha)
          have HX5 := hideIt (show (∀ xs ∈ xss ++ kvs z1 ++ kvs z2 ++ [xb], xs.length ≤ 900000) ∧ (∀ zs ∈ tss ++ [z1] ++ [z2], zs.length ≤ 900000) from
            ⟨len_app (len_app (len_app HX.out.1 (kvs_len SH1.out)) (kvs_len SH2.out)) (fun xs hx => by rw [List.mem_singleton] at hx; rw [hx]; omega), zlen_app (zlen_app HX.out.2 (by have := Z1L.out; omega)) (by have := Z2L.out; omega)⟩)
          clear IT bk4' bk5 kp4 ki4 ou5 ou5' y1 y2 zl DJ4 e5 f5 zr4 b4 NE4 NT4 ot2 E4 w4
          have BY := Bytes_v gk S (M + 2 * n1 + 2 * n2) _ r5 s5 (xss ++ kvs z1 ++ kvs z2) (some ⟨gi, 0, none⟩) n0 ci xb w5 bk5' rfl rfl kp5 gi' NE5.out (by omega) (by omega) zr5
          go_wp2_with (go_at_call 19; (with_reducible refine BY.mono ?_); intro en w6 q; obtain ⟨⟨v6, rfl⟩, k6⟩ := q)
          have ou6 := k6.out
          have zl := hideIt (show ∀ g, AtB (some (⟨gr, 0, none⟩ : Addr)) g → g < w5.heap.size from fun g q => by obtain ⟨a, ea, rfl⟩ := q; exact (ls.row.lt a ea).1)
          replace ls := ls.keepB kp5 bk5' DJ5.out ou6
          replace om := om.apartK kp5 bk5' ou6 (by decide) (by decide)
          have ki6 := ki5.apart kp5 bk5' ou6
          have b6 := b5.trans (ou6.rwsBelow kp5 b5.size hgk hwS)
          have zr6 := Nat.le_trans zr5 ou6.size
          obtain ⟨r6, s6, p6, bk6, kp6, -, -, -, y1, y2, -⟩ := k6
          have DJ6 := hideIt (DJ5.out.next zl.out y1 y2)
          have bk6' : Bk w6 gk (bookT 0 (r6.v (M + 2 * n1 + 2 * n2 + 1)) (s6.v (M + 2 * n1 + 2 * n2 + 1)) nilV (t5.v (mt + 1 + 1)) (u5.v (mt + 1 + 1)) nilV) := bk6
          have e0 : (xss ++ kvs z1 ++ kvs z2).map u8s ++ [u8s xb] = (xss ++ kvs z1 ++ kvs z2 ++ [xb]).map u8s := by simp only [List.map_append, List.map_cons, List.map_nil]
          rw [e0] at kp6
          clear BY bk5' bk6 kp5 ki5 ou6 y1 y2 zl DJ5 e0 zr5 b5 NE5 gi' w5
          go_roundw
          case rel => exact ⟨i + 1, M + 2 * n1 + 2 * n2 + 1, mt + 1 + 1, r6, s6, t5, u5, _, _, _, by omega, hideIt ⟨by omega, by omega⟩, by go_num, bk6', kp6, ki6, ls, DJ6, HX5, om, zr6, b6⟩
          case measure => simp [intOf]; omega
        · obtain rfl : i = 3 := by omega
          have hm2 := HM.out
          have SHM := hideIt (show ShT (its zm) from HZM.out ▸ SHL.out)
          have NEM := hideIt (show ∀ p ∈ r.ps, ∀ q ∈ slots zm, ∀ a b, p.1 = some a → q.1 = some b → a.block ≠ b.block from fun p hp q hq a b ha hb => by
            have h1 := (kp.ls.lt p hp a ha).2
            have h2 := OML.out q hq b hb
            omega)
          have NTM := hideIt (show ∀ p ∈ t.ps, ∀ a b, p.1 = some a → (some ⟨gm, 0, none⟩ : Option Addr) = some b → a.block ≠ b.block from fun p hp a b ha hb => by
            cases hb
            have h1 := (ki.kp.ls.lt p hp a ha).2
            simp only; omega)
          have zmn := om.n
          replace kp := kp.lower hgkS
          replace ki := ki.lower hgkS
          have zrm := Nat.le_trans hgkS zr
          have HXM := hideIt (show (∀ xs ∈ xss ++ kvs zm, xs.length ≤ 900000) ∧ (∀ zs ∈ tss ++ [zm], zs.length ≤ 900000) from ⟨len_app HX.out.1 (kvs_len SHM.out), zlen_app HX.out.2 (by omega)⟩)
          have IT := Items_v gk (gk + 1) M mt _ r s t u xss tss uss (some ⟨gm, 0, none⟩) n cm zm wr bk rfl rfl rfl rfl kp ki om NEM.out NTM.out (by omega) SHM.out (by omega) (by omega) zrm
          go_upto_region 23 with (go_at_call 60; (with_reducible refine IT.mono ?_); intro en w4 q; obtain ⟨⟨v4, rfl⟩, k4⟩ := q)
          obtain ⟨r4, s4, t4, u4, z1', bk4, kp4, ki4, -, -, -, -, ou4⟩ := k4
          have ou4' : Out (RwI gk r s t u) wr w4 := ou4
          have b4 := b.trans (ou4'.rwiBelow kp ki.kp b.size hgk (by omega))
          have zr4 := Nat.le_trans zrm ou4'.size
          have bk4' : Bk w4 gk (bookT 0 (r4.v (M + 2 * n)) (s4.v (M + 2 * n)) nilV (t4.v (mt + 1)) (u4.v (mt + 1)) nilV) := bk4
          have FI := Finish_T gk (gk + 1) (M + 2 * n) (mt + 1) r4 s4 t4 u4 _ _ _ w4 bk4' kp4 ki4 HXM.out.1 HXM.out.2 (by omega) (by omega) zr4
          clear IT bk bk4 bk4' kp kp4 ki ki4 ls om ou4 ou4' b zr DJ HX
          go_wp2_with (first
            | (go_at_call 55; (with_reducible refine (first_calls _).mono ?_); rintro en w9 ⟨rfl, x9⟩)
            | (go_at_call 20; (with_reducible refine FI.mono ?_); rintro en w8 ⟨rfl, ou8⟩; have b8 := b4.trans (ou8.below b4.size (fun g q => by rcases q with q | q <;> omega))))
          go_ret
          exact ⟨rfl, b8.trans (x9.mono b8.size)⟩
end Go.Proofs.YtmeakhiiebeneaaGreatDoor
