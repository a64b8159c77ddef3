/- coppicelaw7.MetaOwn. -/
import Derived.Test.YtenalocpmigppaaGreatDoorKg
import Derived.Test.YtenalocpmigppaaGreatDoorMl
namespace Go.Proofs.YtenalocpmigppaaGreatDoor
open Go.RowKit

/-- Encode, with the memory told. -/
def EncOwn (v n r h k f e : Int) (w : World) (en : Ending) (w' : World) : Prop :=
  ∃ (A : Option Addr) (N c : Nat), en = .returned (.tuple #[.slice A N c, .int .i64 (encC v n r h k f e)]) ∧ GB w' w.heap.size A N c (encR v n r h k f e) ∧ N ≤ 4092 ∧ Below w.heap.size w w'
theorem Encode_own (v n r h k f e : Int) (w : World) (hn8 : I64 n) (hM : Marks w) :
    Calls Tryz.prog 33 #[.agg #[.int .i64 v, .int .i64 n, .int .i64 r, .int .i64 h, .int .i64 k, .int .i64 f, .int .i64 e]] w (EncOwn v n r h k f e w) := by
  unfold EncOwn encR encC
  cases hm : mayB v n r h k f e
  · refine (Encode_no v n r h k f e w hn8 hm).mono ?_
    rintro en w' ⟨rfl, x⟩
    exact ⟨_, _, _, rfl, GB.none_ _ _, by omega, x⟩
  · have b := mayB_bounds hm
    have p1 : 256 ^ 1 = 256 := by decide
    have p4 : 256 ^ 4 = 4294967296 := by decide
    have p8 : 256 ^ 8 = 18446744073709551616 := by decide
    obtain ⟨v, rfl⟩ : ∃ m : Nat, v = m := ⟨v.toNat, by omega⟩
    obtain ⟨n, rfl⟩ : ∃ m : Nat, n = m := ⟨n.toNat, by omega⟩
    obtain ⟨r, rfl⟩ : ∃ m : Nat, r = m := ⟨r.toNat, by omega⟩
    obtain ⟨h, rfl⟩ : ∃ m : Nat, h = m := ⟨h.toNat, by omega⟩
    obtain ⟨k, rfl⟩ : ∃ m : Nat, k = m := ⟨k.toNat, by omega⟩
    obtain ⟨f, rfl⟩ : ∃ m : Nat, f = m := ⟨f.toNat, by omega⟩
    obtain ⟨e, rfl⟩ : ∃ m : Nat, e = m := ⟨e.toNat, by omega⟩
    refine (Encode_ok v n r h k f e w (hideIt (by omega)) (hideIt (by omega)) (hideIt (by omega)) (hideIt (by omega)) (hideIt (by omega)) (hideIt (by omega)) (hideIt (by omega)) hm hM).mono ?_
    rintro en w' ⟨g, rfl, s, o, x⟩
    exact ⟨_, _, _, rfl, GB.of o s, Nat.le_refl _, x⟩
theorem Decode_enc {v n r h k f e : Int} (hm : mayB v n r h k f e = true) (A : Option Addr) (m c : Nat) (w : World) (hx : RB w A m c (encR v n r h k f e)) (hM : Marks w) :
    Calls Tryz.prog 35 #[.slice A m c] w fun en w' => en = .returned (.tuple #[.agg #[.int .i64 v, .int .i64 n, .int .i64 r, .int .i64 h, .int .i64 k, .int .i64 f, .int .i64 e], .int .i64 0]) ∧ Below w.heap.size w w' := by
  have b := mayB_bounds hm
  obtain ⟨v, rfl⟩ : ∃ m : Nat, v = m := ⟨v.toNat, by omega⟩
  obtain ⟨n, rfl⟩ : ∃ m : Nat, n = m := ⟨n.toNat, by omega⟩
  obtain ⟨r, rfl⟩ : ∃ m : Nat, r = m := ⟨r.toNat, by omega⟩
  obtain ⟨h, rfl⟩ : ∃ m : Nat, h = m := ⟨h.toNat, by omega⟩
  obtain ⟨k, rfl⟩ : ∃ m : Nat, k = m := ⟨k.toNat, by omega⟩
  obtain ⟨f, rfl⟩ : ∃ m : Nat, f = m := ⟨f.toNat, by omega⟩
  obtain ⟨e, rfl⟩ : ∃ m : Nat, e = m := ⟨e.toNat, by omega⟩
  refine Decode_body v n r h k f e hm A m c w ?_ hM
  have q := hx
  unfold encR at q
  rw [hm] at q
  exact q
theorem encC_cases (v n r h k f e : Int) : (mayB v n r h k f e = true ∧ encC v n r h k f e = 0) ∨ (mayB v n r h k f e = false ∧ encC v n r h k f e = 71) := by
  unfold encC
  cases hm : mayB v n r h k f e
  · exact Or.inr ⟨rfl, rfl⟩
  · exact Or.inl ⟨rfl, rfl⟩
theorem Out.keepBelow {w w' : World} {gk base B : Nat} (h : Out (KeepD w gk base) w w') (hB : B ≤ w.heap.size) (h1 : B ≤ gk) (h2 : B ≤ base) : Below B w w' :=
  h.below hB fun g q => by
    rcases q with rfl | ⟨q, _⟩
    · exact h1
    · exact Nat.le_trans h2 q
def bookO : Obj := .cells #[.int .i64 0, .int .i64 0, .slice none 0 0, .slice none 0 0, .slice none 0 0, .slice none 0 0, .slice none 0 0, .slice none 0 0, .slice none 0 0, .slice none 0 0, .slice none 0 0, .slice none 0 0, .slice none 0 0, .slice none 0 0, .slice none 0 0, .slice none 0 0, .slice none 0 0, .slice none 0 0, .slice none 0 0, .slice none 0 0, .slice none 0 0, .slice none 0 0, .slice none 0 0, .slice none 0 0, .slice none 0 0, .slice none 0 0, .slice none 0 0, .slice none 0 0, .slice none 0 0, .slice none 0 0, .slice none 0 0, .slice none 0 0, .slice none 0 0, .slice none 0 0, .slice none 0 0, .slice none 0 0, .slice none 0 0, .slice none 0 0, .slice none 0 0, .slice none 0 0, .slice none 0 0] 40
theorem built_book : Tryz.prog.built 40 [] = some #[.int .i64 0, .int .i64 0, .slice none 0 0, .slice none 0 0, .slice none 0 0, .slice none 0 0, .slice none 0 0, .slice none 0 0, .slice none 0 0, .slice none 0 0, .slice none 0 0, .slice none 0 0, .slice none 0 0, .slice none 0 0, .slice none 0 0, .slice none 0 0, .slice none 0 0, .slice none 0 0, .slice none 0 0, .slice none 0 0, .slice none 0 0, .slice none 0 0, .slice none 0 0, .slice none 0 0, .slice none 0 0, .slice none 0 0, .slice none 0 0, .slice none 0 0, .slice none 0 0, .slice none 0 0, .slice none 0 0, .slice none 0 0, .slice none 0 0, .slice none 0 0, .slice none 0 0, .slice none 0 0, .slice none 0 0, .slice none 0 0, .slice none 0 0, .slice none 0 0, .slice none 0 0] := by kernel_rfl
theorem wp_book {o : Oper} {a : Act} {w : World} {K : Act → World → Prop} {Q : Exit → Act → World → Prop} (ho : o.op = .build 40 #[]) (h : K (a.put o.dst (.agg #[.int .i64 0, .int .i64 0, .slice none 0 0, .slice none 0 0, .slice none 0 0, .slice none 0 0, .slice none 0 0, .slice none 0 0, .slice none 0 0, .slice none 0 0, .slice none 0 0, .slice none 0 0, .slice none 0 0, .slice none 0 0, .slice none 0 0, .slice none 0 0, .slice none 0 0, .slice none 0 0, .slice none 0 0, .slice none 0 0, .slice none 0 0, .slice none 0 0, .slice none 0 0, .slice none 0 0, .slice none 0 0, .slice none 0 0, .slice none 0 0, .slice none 0 0, .slice none 0 0, .slice none 0 0, .slice none 0 0, .slice none 0 0, .slice none 0 0, .slice none 0 0, .slice none 0 0, .slice none 0 0, .slice none 0 0, .slice none 0 0, .slice none 0 0, .slice none 0 0, .slice none 0 0])) w) : o.wp Tryz.prog a w K Q := by
  have e : (((#[] : Array (Nat × Operand)).map fun (i, x) => (i, a.eval x)).toList) = [] := by simp
  refine wp_build 40 #[] ho (by rw [e, built_book]; rfl) ?_
  rw [e, built_book]
  exact h
theorem Bk.new (w : World) : Bk (w.alloc bookO) w.heap.size (bookCs 0 (.slice none 0 0) (.slice none 0 0) (.slice none 0 0)) :=
  OC.mk rfl _ (heap_alloc_new w _) (Nat.le_refl _) (by rw [maxLen_is]; omega) rfl rfl
theorem BookB.new (w : World) : BookB (w.alloc bookO) w.heap.size (w.heap.size + 1) 0 none 0 none 0 [] [] [] :=
  ⟨Bk.new w, LS.nil _ _ _ _ _, LS.nil _ _ _ _ _, fun a b h => by cases h⟩
theorem Finish_k (gk base m cb cw : Nat) (Ab Aw : Option Addr) (ps pw : List Slot) (xss : List (List UInt8)) (w : World) (hB : BookB w gk base m Ab cb Aw cw ps pw xss) (hs : ∀ xs ∈ xss, xs.length ≤ 900000) (m1 : m ≤ 900000) (hb : base ≤ w.heap.size) :
    Calls Tryz.prog 15 #[.pointer (some ⟨gk, 0, none⟩)] w fun e w' => e = .returned (.bool true) ∧ Out (fun g => g = gk ∨ InPs ps g) w w' :=
  Finish_b gk base m cb cw Ab Aw ps _ xss w hB.bk hB.ls hB.lw.read.rm hs m1 hb
theorem InPs.base {w : World} {base e sz rt n c : Nat} {A : Option Addr} {ps : List Slot} {css : List (List Value)} (h : LS w base e sz rt A n c ps css) {g : Nat} (q : InPs ps g) : base ≤ g := by
  obtain ⟨p, hp, a, ha, rfl⟩ := q
  exact (h.lt p hp a ha).2
theorem LS.fresh {w : World} {base e sz rt n c : Nat} {A : Option Addr} {ps : List Slot} {css : List (List Value)} (h : LS w base e sz rt A n c ps css) {B : Option Addr} {lo : Nat} (hl : w.heap.size ≤ lo) (hB : ∀ b, B = some b → lo ≤ b.block) : ∀ p ∈ ps, ∀ a b, p.1 = some a → B = some b → a.block ≠ b.block := by
  intro p hp a b ha hb q
  have h1 := (h.lt p hp a ha).1
  have h2 := hB b hb
  omega
set_option maxRecDepth 100000 in
set_option maxHeartbeats 4000000 in
theorem MetaOwn_walk (v n r h k f e v' n' r' h' k' f' e' : Int) (w : World) (hq : I64 v ∧ I64 n ∧ I64 r ∧ I64 h ∧ I64 k ∧ I64 f ∧ I64 e) (hq' : I64 v' ∧ I64 n' ∧ I64 r' ∧ I64 h' ∧ I64 k' ∧ I64 f' ∧ I64 e') (hM : Marks w) :
    Calls Tryz.prog 6 #[.agg #[.int .i64 v, .int .i64 n, .int .i64 r, .int .i64 h, .int .i64 k, .int .i64 f, .int .i64 e], .agg #[.int .i64 v', .int .i64 n', .int .i64 r', .int .i64 h', .int .i64 k', .int .i64 f', .int .i64 e']] w fun en w' => en = .returned (.bool true) ∧ Below w.heap.size w w' := by
  have n8 := hideIt hq.2.1
  have n8' := hideIt hq'.2.1
  clear hq hq'
  have x1 := below1 w (.cells #[.int .i64 v, .int .i64 n, .int .i64 r, .int .i64 h, .int .i64 k, .int .i64 f, .int .i64 e] 66)
  have q1 := HC.new w v n r h k f e
  go_enter Tryz.func6, Tryz.ntmps6
  go_upto_region 1 with fail
  have z1 : (w.alloc (.cells #[.int .i64 v, .int .i64 n, .int .i64 r, .int .i64 h, .int .i64 k, .int .i64 f, .int .i64 e] 66)).heap.size = w.heap.size + 1 := by simp
  have x2 := below1 (w.alloc (.cells #[.int .i64 v, .int .i64 n, .int .i64 r, .int .i64 h, .int .i64 k, .int .i64 f, .int .i64 e] 66)) (.cells #[.int .i64 v', .int .i64 n', .int .i64 r', .int .i64 h', .int .i64 k', .int .i64 f', .int .i64 e'] 66)
  have q2 := HC.new (w.alloc (.cells #[.int .i64 v, .int .i64 n, .int .i64 r, .int .i64 h, .int .i64 k, .int .i64 f, .int .i64 e] 66)) v' n' r' h' k' f' e'
  rw [z1] at q2
  have C1 := q1.below x2
  have b1 := x1.trans (x2.mono x1.size)
  clear x1 x2 z1 q1
  generalize (w.alloc (.cells #[.int .i64 v, .int .i64 n, .int .i64 r, .int .i64 h, .int .i64 k, .int .i64 f, .int .i64 e] 66)).alloc (.cells #[.int .i64 v', .int .i64 n', .int .i64 r', .int .i64 h', .int .i64 k', .int .i64 f', .int .i64 e'] 66) = w1 at *
  go_upto_region 2 with (go_at_call 32; refine (first_calls _ (hM.below b1)).mono ?_; rintro en w2 ⟨rfl, x2⟩)
  replace C1 := C1.below x2
  have C2 := q2.below x2
  have b2 := b1.trans (x2.mono b1.size)
  clear x2 b1 q2 w1
  go_upto_region 3 with (refine wp_book rfl ?_)
  have x3 := below1 w2 bookO
  have B3 := BookB.new w2
  have z3 : w2.heap.size + 1 ≤ (w2.alloc bookO).heap.size := by simp
  replace C1 := C1.below x3
  replace C2 := C2.below x3
  have hg := b2.size
  have b3 := b2.trans (x3.mono b2.size)
  change Code.wp _ _ _ _ (w2.alloc bookO)
  generalize w2.alloc bookO = w3 at *
  generalize w2.heap.size = gk at *
  clear x3 b2 w2
  go_upto_region 4 with fail
  go_loopw [7] (fun ii wr => ∃ (i m cb cw : Nat) (Ab Aw : Option Addr) (ps pw : List Slot) (xss : List (List UInt8)), i ≤ 3 ∧ Hid (m = 2 * i) ∧ ii = .int .i64 (i : Int) ∧ BookB wr gk (gk + 1) m Ab cb Aw cw ps pw xss ∧ Hid (∀ xs ∈ xss, xs.length ≤ 900000) ∧ HC wr w.heap.size v n r h k f e ∧ HC wr (w.heap.size + 1) v' n' r' h' k' f' e' ∧ gk + 1 ≤ wr.heap.size ∧ Below w.heap.size w wr)
    (fun ii _ => 3 - (intOf ii).toNat)
  case atStart => exact ⟨0, 0, 0, 0, none, none, [], [], [], by omega, rfl, rfl, B3, hideIt (fun xs hx => by cases hx), C1, C2, z3, b3⟩
  case round =>
    clear B3 C1 C2 z3 b3
    obtain ⟨i, m, cb, cw, Ab, Aw, ps, pw, xss, hi, HM, rfl, B, HX, C1, C2, zr, b⟩ := hrel
    by_cases hlt : i < 3
    · have i1 := C1.at_
      obtain ⟨i0, i1, i2, i3, i4, i5, i6, i7⟩ := i1
      go_upto_region 7 with (go_at_call 33; refine (Encode_own _ _ _ _ _ _ _ _ n8.out (hM.below b)).mono ?_; intro en w4 q; obtain ⟨A4, N4, c4, rfl, o4, l4, x4⟩ := q)
      have F4 := hideIt (B.ls.fresh (Nat.le_refl _) (fun z ez => (GB.lt o4 z ez).2))
      replace B := B.below x4
      replace C1 := C1.below x4
      replace C2 := C2.below x4
      replace o4 := GC.lower o4 zr
      have zr4 := Nat.le_trans zr x4.size
      replace b := b.trans (x4.mono b.size)
      clear i0 i1 i2 i3 i4 i5 i6 i7 x4 zr wr
      have i1 := C2.at_
      obtain ⟨i0, i1, i2, i3, i4, i5, i6, i7⟩ := i1
      go_upto_region 8 with (go_at_call 33; refine (Encode_own _ _ _ _ _ _ _ _ n8'.out (hM.below b)).mono ?_; intro en w5 q; obtain ⟨A5, N5, c5, rfl, o5, l5, x5⟩ := q)
      have F5 := hideIt (B.ls.fresh (Nat.le_refl _) (fun z ez => (GB.lt o5 z ez).2))
      have F6 : Hid (∀ p ∈ ps ++ [(A4, N4, c4)], ∀ a z, p.1 = some a → A5 = some z → a.block ≠ z.block) := hideIt (fun p hp a z ha hz => by
        rcases List.mem_append.1 hp with q | q
        · exact F5.out p q a z ha hz
        · rw [List.mem_singleton] at q
          subst q
          have h1 := (GB.lt o4 a ha).1
          have h2 := (GB.lt o5 z hz).2
          omega)
      replace B := B.below x5
      replace C1 := C1.below x5
      replace C2 := C2.below x5
      replace o4 := GB.below o4 x5
      replace o5 := GC.lower o5 zr4
      have zr5 := Nat.le_trans zr4 x5.size
      replace b := b.trans (x5.mono b.size)
      clear i0 i1 i2 i3 i4 i5 i6 i7 x5 zr4 F5 w4
      have HL := hideIt l4
      have HL5 := hideIt l5
      have hm2 := HM.out
      have BY := Bytes_b gk (gk + 1) m cb cw Ab Aw ps pw xss A4 N4 c4 _ w5 B o4 F4.out (by omega) (by omega) zr5
      have o4l : (encR v n r h k f e).length ≤ 900000 := by have := (GB.read o4).len; omega
      have o5l : (encR v' n' r' h' k' f' e').length ≤ 900000 := by have := (GB.read o5).len; omega
      have HX2 : Hid (∀ xs ∈ (xss ++ [encR v n r h k f e]) ++ [encR v' n' r' h' k' f' e'], xs.length ≤ 900000) := hideIt (fun xs hx => by
        rcases List.mem_append.1 hx with q | q
        · rcases List.mem_append.1 q with q | q
          · exact HX.out xs q
          · rw [List.mem_singleton] at q; rw [q]; exact o4l
        · rw [List.mem_singleton] at q; rw [q]; exact o5l)
      clear o4l o5l F4
      go_upto_region 9 with (go_at_call 11; refine BY.mono ?_; intro en w6 q; obtain ⟨⟨v6, rfl⟩, Ab6, cb6, Aw6, cw6, pw6, B6, ou6⟩ := q)
      clear BY
      replace C1 := ou6.keepOC B.bk C1 (by decide) (by decide)
      replace C2 := ou6.keepOC B.bk C2 (by decide) (by decide)
      replace o4 := ou6.keepGB B.bk o4
      replace o5 := ou6.keepGB B.bk o5
      have zr6 := Nat.le_trans zr5 ou6.size
      replace b := b.trans (ou6.keepBelow b.size hg (by omega))
      clear ou6 B zr5 w5
      have BY := Bytes_b gk (gk + 1) (m + 1) cb6 cw6 Ab6 Aw6 (ps ++ [(A4, N4, c4)]) pw6 (xss ++ [encR v n r h k f e]) A5 N5 c5 _ w6 B6 o5 F6.out (by omega) (by omega) zr6
      clear F6
      go_upto_region 10 with (go_at_call 11; refine BY.mono ?_; intro en w7 q; obtain ⟨⟨v7, rfl⟩, Ab7, cb7, Aw7, cw7, pw7, B7, ou7⟩ := q)
      clear BY
      replace C1 : HC w7 w.heap.size v n r h k f e := ou7.keepOC B6.bk C1 (by decide) (by decide)
      replace C2 : HC w7 (w.heap.size + 1) v' n' r' h' k' f' e' := ou7.keepOC B6.bk C2 (by decide) (by decide)
      replace o4 := ou7.keepGB B6.bk o4
      have zr7 := Nat.le_trans zr6 ou7.size
      replace b := b.trans (ou7.keepBelow b.size hg (by omega))
      clear ou7 B6 zr6 o5 w6
      rcases encC_cases v n r h k f e with ⟨hm, hc⟩ | ⟨hm, hc⟩
      · rw [hc]
        have D := Decode_enc hm A4 N4 c4 w7 (GB.read o4) (hM.below b)
        clear hc o4
        go_upto_region 12 with (first
          | (go_at_call 35; refine D.mono ?_; rintro en w8 ⟨rfl, x8⟩)
          | (go_at_call 34; refine (num_calls _ _).mono ?_; rintro en w9 ⟨rfl, rfl⟩))
        have y8 := below1 w8 (.cells #[.int .i64 v, .int .i64 n, .int .i64 r, .int .i64 h, .int .i64 k, .int .i64 f, .int .i64 e] 66)
        have p9 := (HC.new w8 v n r h k f e).at_
        have x9 := x8.trans (y8.mono x8.size)
        replace B7 := B7.below x9
        replace C1 := C1.below x9
        replace C2 := C2.below x9
        replace zr7 := Nat.le_trans zr7 x9.size
        replace b := b.trans (x9.mono b.size)
        clear D x8 y8 x9
        generalize w8.alloc (.cells #[.int .i64 v, .int .i64 n, .int .i64 r, .int .i64 h, .int .i64 k, .int .i64 f, .int .i64 e] 66) = w9 at *
        generalize w8.heap.size = g9 at *
        clear w8 w7
        obtain ⟨j0, j1, j2, j3, j4, j5, j6, j7⟩ := p9
        have i1 := C1.at_
        obtain ⟨i0, i1, i2, i3, i4, i5, i6, i7⟩ := i1
        go_upto_region 13 with (go_at_call 36; refine (SameHead_calls _ _ _ _ _ _ _ _).mono ?_; rintro en w10 ⟨rfl, x10⟩)
        replace B7 := B7.below x10
        replace C1 := C1.below x10
        replace C2 := C2.below x10
        replace zr7 := Nat.le_trans zr7 x10.size
        replace b := b.trans (x10.mono b.size)
        clear j0 j1 j2 j3 j4 j5 j6 j7 i0 i1 i2 i3 i4 i5 i6 i7 x10 w9
        go_wp2_with (go_at_call 34; refine (num_calls _ _).mono ?_; rintro en w9 ⟨rfl, rfl⟩)
        go_roundw
        case rel => exact ⟨i + 1, _, _, _, _, _, _, _, _, by omega, hideIt (by omega), by go_num, B7, HX2, C1, C2, zr7, b⟩
        case measure => simp [intOf]; omega
      · rw [hc]
        clear hc hm o4
        go_wp2_with (go_at_call 34; refine (num_calls _ _).mono ?_; rintro en w9 ⟨rfl, rfl⟩)
        go_roundw
        case rel => exact ⟨i + 1, _, _, _, _, _, _, _, _, by omega, hideIt (by omega), by go_num, B7, HX2, C1, C2, zr7, b⟩
        case measure => simp [intOf]; omega
    · obtain rfl : i = 3 := by omega
      clear C1 C2
      have hm2 := HM.out
      have lsb := hideIt B.ls
      have FI := Finish_k gk (gk + 1) m cb cw Ab Aw ps pw xss wr B HX.out (by omega) zr
      clear B HX
      go_upto_region 16 with (go_at_call 15; refine FI.mono ?_; rintro en w8 ⟨rfl, ou⟩)
      have b8 := b.trans (ou.below b.size (fun g q => by
        rcases q with q | q
        · omega
        · have := InPs.base lsb.out q
          omega))
      clear FI ou
      go_wp2_with (go_at_call 32; refine (first_calls _ (hM.below b8)).mono ?_; rintro en w9 ⟨rfl, x9⟩)
      go_ret
      exact ⟨rfl, b8.trans (x9.mono b8.size)⟩
end Go.Proofs.YtenalocpmigppaaGreatDoor
