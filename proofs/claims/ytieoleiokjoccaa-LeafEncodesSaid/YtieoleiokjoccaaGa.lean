/- coppiceref.Item. -/
import Derived.Test.YtieoleiokjoccaaFr
namespace Go.Proofs.Ytieoleiokjoccaa
open Go.RowKit

theorem below_grown_ {B g : Nat} {w0 w w' : World} (b : Below B w0 w) (k : w.grownBy w' (some g)) (hB : B ≤ w.heap.size) (hg : B ≤ g) : Below B w0 w' := blw_own b k hB hg
set_option maxRecDepth 100000 in
set_option maxHeartbeats 4000000 in
theorem Item_calls (A1 A3 : Option Addr) (n1 c1 n3 c3 : Nat) (x : It) (w : World) (hk : RB w A1 n1 c1 x.k) (hv : RB w A3 n3 c3 x.v) (h1 : n1 ≤ 10000) (h3 : n3 ≤ 10000) :
    Calls Try.prog 59 #[.agg #[.slice A1 n1 c1, .slice A3 n3 c3, .int .i64 x.s, .int .i64 x.f]] w fun e w' => ∃ g2 d2 g3 d3, e = .returned (.agg #[.slice (some ⟨g2, 0, none⟩) n1 d2, .slice (some ⟨g3, 0, none⟩) n3 d3, .int .i64 x.s, .int .i64 x.f]) ∧ w.heap.size ≤ g2 ∧ g2 < g3 ∧ OB w' g2 n1 d2 x.k ∧ OB w' g3 n3 d3 x.v ∧ Below w.heap.size w w' := by
  have b0 := below1 w (.cells #[.slice A1 n1 c1, .slice A3 n3 c3, .int .i64 x.s, .int .i64 x.f] 48)
  have it0 := ItAt.new w 48 (A1, n1, c1) (A3, n3, c3) x.s x.f
  generalize hw0 : w.alloc (.cells #[.slice A1 n1 c1, .slice A3 n3 c3, .int .i64 x.s, .int .i64 x.f] 48) = w0 at b0 it0
  have b1 := below1 w0 (.cells #[.slice none 0 0, .slice none 0 0, .int .i64 0, .int .i64 0] 48)
  have it1 := it0.below b1
  have oi1 : OC (w0.alloc (.cells #[.slice none 0 0, .slice none 0 0, .int .i64 0, .int .i64 0] 48)) 48 4 w0.heap.size 1 1 [.slice none 0 0, .slice none 0 0, .int .i64 0, .int .i64 0] := OC.mk rfl _ (heap_alloc_new w0 _) (Nat.le_refl _) (by rw [maxLen_is]; omega) rfl rfl
  have bb := blw_step b0 b1
  have z0 : w0.heap.size = w.heap.size + 1 := by rw [← hw0]; simp
  rw [z0] at oi1
  generalize hw1 : w0.alloc (.cells #[.slice none 0 0, .slice none 0 0, .int .i64 0, .int .i64 0] 48) = w1 at it1 oi1 bb
  clear b0 it0 b1
  subst hw0
  go_enter Try.func59, Try.ntmps59
  go_upto_region 1 with fail
  clear hw1 z0
  have itd := it1.below (drew1 w1)
  have oid := oi1.below (drew1 w1)
  have bd : Below w.heap.size w w1.drew := bb.drew
  have kd := hk.below bd
  obtain ⟨y0, y1, y2, y3⟩ := itd.head
  simp only at y0 y1
  clear it1 oi1 bb
  go_region_held3 (fun w' => w'.cell? ⟨w.heap.size, 0, none⟩ = some (.slice A1 n1 c1) ∧ w'.cell? ⟨w.heap.size, 1, none⟩ = some (.slice A3 n3 c3) ∧ w'.cell? ⟨w.heap.size, 2, none⟩ = some (.int .i64 x.s) ∧ w'.cell? ⟨w.heap.size, 3, none⟩ = some (.int .i64 x.f)) (first | exact ⟨y0, y1, y2, y3⟩ | exact ⟨u0, u1, u2, u3⟩ | exact ⟨v0, v1, v2, v3⟩ | go_keep)
    (first
      | (go_at_call 21; (with_reducible refine (Bytes_calls _ _ _ _ _ kd (by omega)).mono ?_); rintro en w2 ⟨g2, d2, rfl, s2, o2, x2⟩; have it2 := itd.below x2; have b2 := blw_step bd x2; have hv2 := hv.below b2; obtain ⟨u0, u1, u2, u3⟩ := it2.head; simp only at u0 u1)
      | (go_at_call 21; (with_reducible refine (Bytes_calls _ _ _ _ _ hv2 (by omega)).mono ?_); rintro en w3 ⟨g3, d3, rfl, s3, o3, x3⟩; have it3 := it2.below x3; obtain ⟨v0, v1, v2, v3⟩ := it3.head; simp only at v0 v1; have oi3 := (oid.below x2).below x3; have f0 := oi3.free 0; have f1 := oi3.free 1; have f2 := oi3.free 2; have f3 := oi3.free 3; obtain ⟨e0, e1, e2, e3⟩ := oi3.item4))
  have os := (((oi3.set 0 (.slice (some ⟨g2, 0, none⟩) n1 d2)).set 1 (.slice (some ⟨g3, 0, none⟩) n3 d3)).set 2 (.int .i64 x.s)).set 3 (.int .i64 x.f)
  have gs := (((grownBy_set w3 (w.heap.size + 1) 0 (.slice (some ⟨g2, 0, none⟩) n1 d2)).trans (grownBy_set _ (w.heap.size + 1) 1 (.slice (some ⟨g3, 0, none⟩) n3 d3))).trans (grownBy_set _ (w.heap.size + 1) 2 (.int .i64 x.s))).trans (grownBy_set _ (w.heap.size + 1) 3 (.int .i64 x.f))
  have lt3 := oi3.lt
  have g2l := Nat.le_trans bd.size s2
  have o23 := o2.below x3
  have lr := oid.lt
  have n2 : g2 ≠ w.heap.size + 1 := by omega
  have z2 := x2.size
  have n3' : g3 ≠ w.heap.size + 1 := by omega
  have lt2 := o2.lt
  go_wp2
  refine ret_item os rfl rfl rfl ?_
  exact ⟨g2, d2, g3, d3, rfl, g2l, by omega, o23.same (Sm.of_grown gs o23.lt (by simp only [ne_eq, Option.some.injEq]; omega)), o3.same (Sm.of_grown gs o3.lt (by simp only [ne_eq, Option.some.injEq]; omega)), below_grown_ (blw_step b2 x3) gs (blw_step b2 x3).size (by omega)⟩
end Go.Proofs.Ytieoleiokjoccaa
/- coppiceref.Items, coppicelaw4.encodes. -/
namespace Go.Proofs.Ytieoleiokjoccaa
open Go.RowKit

section
variable {w : World} {ops : Array Oper} {rest : List Oper} {o : Oper} {a : Act} {Q : Exit → Act → World → Prop}
theorem wpT_make (hg : o.guard = none) (l c : Operand) (hop : o.op = Op.makeSlice 22 l c) (kl kc : IntKind) (C : Int) (n : Nat) (hl : a.eval l = .int kl 0) (hc : a.eval c = .int kc C) (hC : C = (n : Int)) (hn : n ≤ 1000000)
    (h : ∀ g w', w.heap.size ≤ g → OC w' 48 4 g 0 n [] → w.grownBy w' none → wpList Try.prog ops Q rest (a.put o.dst (.slice (some ⟨g, 0, none⟩) 0 n)) w') : wpList Try.prog ops Q (o :: rest) a w := by
  obtain ⟨i0, hi, hz0, hz1, hz2⟩ := info_parts info_item
  exact wpList_make_own w hg l c 22 hop 0 48 i0 _ 4 Try.underlying22 hi hz0 hz1 kl kc C n hl hc hC (by rw [hz2]; omega) (by rw [maxLen_is]; omega) (Nat.zero_le _)
    fun w' h1 h2 => h _ w' (Nat.le_refl _) (OC.of_own h1) h2
end
structure ShT (l : List It) : Prop where
  s : ∀ x ∈ l, x.k.length ≤ 5000 ∧ x.v.length ≤ 5000

set_option maxRecDepth 100000 in
set_option maxHeartbeats 4000000 in
theorem Items_calls (A : Option Addr) (n c : Nat) (vs : List Value) (l : List It) (w : World) (h : RT w A n c vs l) (hn : n ≤ 2000) (hs : ShT l) :
    Calls Try.prog 40 #[.slice A n c] w fun e w' => ∃ (g c' : Nat) (zs : List Cel), e = .returned (.slice (some ⟨g, 0, none⟩) n c') ∧ OT w' w.heap.size (some ⟨g, 0, none⟩) n c' zs ∧ its zs = l ∧ Below w.heap.size w w' := by
  have HL := hideIt h.len
  have HS := hideIt hs.s
  go_enter Try.func40, Try.ntmps40
  go_wp2_with (at_make; refine wpT_make rfl _ _ rfl _ _ _ n rfl rfl rfl (by omega) ?_; intro g1 w1 s1 o1 k1)
  have b1 := below_of_grown k1 (Nat.le_refl _) (by simp)
  have G0 : OT w1 w.heap.size (some ⟨g1, 0, none⟩) 0 n [] := ⟨GC.of o1 s1, (fun z h => by cases h), List.Pairwise.nil⟩
  clear k1 o1
  go_loopw [3, 4] (fun bb ii wr => ∃ (i c3 g3 : Nat) (zs : List Cel), i ≤ n ∧ bb = .slice (some ⟨g3, 0, none⟩) i c3 ∧ ii = .int .i64 (i : Int) ∧ OT wr w.heap.size (some ⟨g3, 0, none⟩) i c3 zs ∧ Hid (its zs = l.take i) ∧ Below w.heap.size w wr)
    (fun _ ii _ => n - (intOf ii).toNat)
  case atStart => exact ⟨0, n, g1, [], by omega, rfl, rfl, G0, hideIt rfl, b1⟩
  case round =>
    clear G0 b1 s1
    obtain ⟨i, c3, g3, zs, hi, rfl, rfl, ot, HZ, bw⟩ := hrel
    by_cases hlt : i < n
    · obtain ⟨ad, ⟨A1, n1, c1⟩, ⟨A3, n3, c3'⟩, x, rfl, hx, it, rk, rv⟩ := (h.below bw).row i hlt
      obtain ⟨i0, i1, i2, i3⟩ := it
      simp only at i0 i1 rk rv
      have st : l.take (i + 1) = l.take i ++ [x] := by rw [List.take_add_one, hx]; rfl
      have ST := hideIt st
      have hs2 := HS.out x (List.mem_of_getElem? hx)
      rw [rk.len, rv.len] at hs2
      have j1 : (i : Int) < (n : Int) := by omega
      have HLO := hideIt ot.lt
      have IT := Item_calls A1 A3 n1 c1 n3 c3' x wr rk rv (by omega) (by omega)
      clear st hx rk rv
      go_upto_region 6 with (go_at_call 59; (with_reducible refine IT.mono ?_); rintro en w2 ⟨g4, d4, g5, d5, rfl, s4, s5, o4, o5, x2⟩)
      clear i0 i1 i2 i3 IT
      have ba := below1 w2 (.cells #[.slice (some ⟨g4, 0, none⟩) n1 d4, .slice (some ⟨g5, 0, none⟩) n3 d5, .int .i64 x.s, .int .i64 x.f] 48)
      have it2 := ItAt.new w2 48 (some ⟨g4, 0, none⟩, n1, d4) (some ⟨g5, 0, none⟩, n3, d5) x.s x.f
      have ot2 := (ot.below x2).below ba
      have p2 := (GB.of o4 s4).below ba
      have q2 := (GB.of o5 (Nat.le_trans s4 (Nat.le_of_lt s5))).below ba
      have b2 := blw_step (blw_step bw x2) ba
      generalize w2.alloc (.cells #[.slice (some ⟨g4, 0, none⟩) n1 d4, .slice (some ⟨g5, 0, none⟩) n3 d5, .int .i64 x.s, .int .i64 x.f] 48) = w3 at it2 ot2 p2 q2 b2 ⊢
      obtain ⟨y0, y1, y2, y3⟩ := it2.head
      simp only at y0 y1
      have ba3 := below1 w3 (.cells #[.slice (some ⟨g4, 0, none⟩) n1 d4, .slice (some ⟨g5, 0, none⟩) n3 d5, .int .i64 x.s, .int .i64 x.f] 48)
      have ot3 := ot2.below ba3
      have p3 := p2.below ba3
      have q3 := q2.below ba3
      have b3 := blw_step b2 ba3
      have R3 := it_cell w3 ⟨(some ⟨g4, 0, none⟩, n1, d4), (some ⟨g5, 0, none⟩, n3, d5), x⟩
      have BF : Before (some ⟨g4, 0, none⟩, n1, d4) (some ⟨g5, 0, none⟩, n3, d5) := by
        intro a b ea eb
        cases ea; cases eb
        simp only
        omega
      clear ba ba3 ot ot2 p2 q2 b2 o4 o5 x2 it2
      go_wp2_with (with_reducible refine wpT_app rfl (.tmp 20) (.tmp 22) rfl w.heap.size _ _ _ _ rfl ot3.row _ ⟨(some ⟨g4, 0, none⟩, n1, d4), (some ⟨g5, 0, none⟩, n3, d5), x⟩ rfl (OC.read R3) (by omega) b3.size ?_; intro g6 c6 w6 q6 o6 k6)
      have ot6 := ot3.push p3 q3 BF (fun s hs a e => (HLO.out s hs a e).1) bw.size k6 o6 q6
      have b6 := GC.under ot3.row b3 k6 b3.size
      go_roundw
      case rel => exact ⟨i + 1, c6, g6, _, by omega, rfl, by go_num, ot6, hideIt (by rw [its_append, HZ.out, ST.out]; rfl), b6⟩
      case measure => simp [intOf]; omega
    · obtain rfl : n = i := by omega
      have hz := HZ.out
      rw [List.take_of_length_le (by rw [HL.out]; exact Nat.le_refl _)] at hz
      clear HZ
      go_wp2
      go_ret
      exact ⟨_, _, _, rfl, ot, hz, bw⟩

set_option maxRecDepth 100000 in
set_option maxHeartbeats 4000000 in
theorem encodes_calls (A A' : Option Addr) (n c c' : Nat) (vs vs' : List Value) (l : List It) (w : World) (h : RT w A n c vs l) (h' : RT w A' n c' vs' l) (hn : n ≤ 2000) :
    Calls Try.prog 20 #[.slice A n c, .slice A' n c'] w fun e w' => e = .returned (.bool true) ∧ Below w.heap.size w w' := by
  have E1 := Encode_calls _ _ _ _ _ _ h (by omega)
  have E2 := fun W q => refEncode_calls A' n c' vs' l W q (by omega)
  obtain ⟨xb, xe, hxe⟩ : ∃ b e, encT l = (b, e) := ⟨_, _, rfl⟩
  rw [hxe] at E1 E2
  have ee : (xe == xe) = true := beq_self_eq_true _
  clear hxe
  go_enter Try.func20, Try.ntmps20
  go_upto_region 2 with (go_at_call 23; (with_reducible refine E1.mono ?_); rintro en w1 ⟨A1, n1, rfl, g1, b1⟩)
  have h1 := h'.below b1
  go_upto_region 3 with (go_at_call 41; (with_reducible refine (E2 _ h1).mono ?_); rintro en w2 ⟨A2, n2, c2, rfl, r2, x2⟩)
  have g2 := (g1.below x2).read
  have b2 := blw_step b1 x2
  clear E1 E2 h h' h1 g1 b1 x2
  go_wp2_with (first
    | (go_at_call 24; refine (num_calls _ _).mono ?_; rintro en wx ⟨rfl, rfl⟩)
    | (go_at_call 27; refine (SameBytes_calls _ _ _ _ _ _ _ _ _ g2 r2 true (by simp)).mono ?_; rintro en wx ⟨rfl, rfl⟩))
  go_ret
  exact ⟨rfl, b2⟩
end Go.Proofs.Ytieoleiokjoccaa
/- coppicelaw4.lend, lent.of. -/
namespace Go.Proofs.Ytieoleiokjoccaa
open Go.RowKit

section
variable {w : World} {ops : Array Oper} {o : Oper} {a : Act} {K : Act → World → Prop} {Q : Exit → Act → World → Prop} {E : Prop}
theorem stepT_app (hgd : o.guard = none) (s x : Operand) (ho : o.op = .call { callee := .builtin .append, args := #[s, x], argTypes := #[22, 22] })
    (base : Nat) (A : Option Addr) (n c : Nat) (zs : List Cel) (hs : a.eval s = .slice A n c) (hown : GC w base 48 4 A n c (itvs zs))
    (ad : Addr) (z : Cel) (hx : a.eval x = .slice (some ad) 1 1) (hr : RC w 4 (some ad) 1 1 (itv z)) (hb : n + 1 ≤ 1000000) (hbase : base ≤ w.heap.size)
    (h : ∀ g' c' w', base ≤ g' → OC w' 48 4 g' (n + 1) c' (itvs zs ++ itv z) → w.grownBy w' (A.map (·.block)) → K (a.put o.dst (.slice (some ⟨g', 0, none⟩) (n + 1) c')) w') :
    if Region.wanted o (yielded ops a.tmps) = true then Oper.wp Try.prog o a w K Q else E := by
  obtain ⟨i0, hi, hz0, hz1, hz2⟩ := info_parts info_item
  refine step_of hgd (wp_append_own w s x 22 ho base 48 i0 _ 4 64 Try.underlying22 hi hz0 hz1 hz2 rfl (by decide) (.slice A n c) n (itvs zs) hs hown ad 1 1 (itv z) hx hr.len (hr.cell ad rfl) (itvs_one [z]) (by rw [maxLen_is]; omega) (by omega) hbase fun v' w' h2 h3 _ => ?_)
  have hb : (Value.slice A n c).ownBlock = A.map (·.block) := by cases A <;> rfl
  rw [hb] at h3
  rcases h2.2 with ⟨h', h4⟩ | ⟨g', cap, cur, rfl, hb2, hg, r⟩
  · omega
  · exact h g' cap w' hb2 (OC.mk h2.1 cur hg r.1 r.2.1 r.2.2.1 r.2.2.2) h3
end

theorem OC.lent2 {w : World} {g : Nat} {x y : Value} (q : OC w 26 2 g 1 1 [x, y]) : w.cell? ⟨g, 0, none⟩ = some x ∧ w.cell? ⟨g, 1, none⟩ = some y :=
  ⟨q.read.cell ⟨g, 0, none⟩ rfl 0 _ rfl, q.read.cell ⟨g, 0, none⟩ rfl 1 _ rfl⟩
theorem info_lent : (Try.prog.info? 26).map (·.size) = some 2 := by kernel_rfl
theorem ret_lent {fn : Func} {R : Ending → World → Prop} {a : Act} {w : World} {g s : Nat} {x y : Value} (q : OC w 26 2 g 1 1 [x, y]) (hres : fn.results = #[.cell s 26]) (h2 : a.tmps.getD s undef = .pointer (some ⟨g, 0, none⟩)) (hd : a.defers = [])
    (hR : R (.returned (.agg #[x, y])) w) : bodyPost Try.prog fn R .ret a w := by
  obtain ⟨hl, cur, hg, r1, r2, r3, r4⟩ := OC.block q
  have e : cur = #[x, y] := by
    apply Array.ext'
    rw [List.take_of_length_le (by rw [Array.length_toList, r3]; exact Nat.le_refl _)] at r4
    exact r4
  subst e
  exact bodyPost_ret (results_cell_row hres _ _ g _ _ _ _ h2 hg Try.underlying26 rfl info_lent) hd hR
/-- A list in a block of its own, two marks behind it. -/
def Mk1 (w : World) (base : Nat) (p : Option Addr × Nat × Nat) (k mk : List UInt8) : Prop := ∃ g c, p = (some ⟨g, 0, none⟩, k.length, c) ∧ base ≤ g ∧ OB w g (k.length + 2) c (k ++ mk)
theorem Mk1.below {w w' : World} {base : Nat} {p : Option Addr × Nat × Nat} {k mk : List UInt8} (h : Mk1 w base p k mk) (b : Below w.heap.size w w') : Mk1 w' base p k mk := by
  obtain ⟨g, c, e, hb, o⟩ := h
  exact ⟨g, c, e, hb, o.below b⟩
theorem Mk1.apart {w w' : World} {base base' e sz n c : Nat} {A : Option Addr} {cs : List Value} {p : Option Addr × Nat × Nat} {x mk : List UInt8} (h : Mk1 w base p x mk) (k : GC w base' e sz A n c cs) (gx : w.grownBy w' (A.map (·.block))) (ne : 5 ≠ e) : Mk1 w' base p x mk := by
  obtain ⟨g, c', e', hb, o⟩ := h
  exact ⟨g, c', e', hb, OC.apart o k gx ne⟩
theorem Mk1.other {w w' : World} {base e sz n c g : Nat} {cs : List Value} {p : Option Addr × Nat × Nat} {x mk : List UInt8} (h : Mk1 w base p x mk) (k : w.grownBy w' (some g)) (o : OC w e sz g n c cs) (ne : 5 ≠ e) : Mk1 w' base p x mk := by
  obtain ⟨g1, c1, e', hb, o1⟩ := h
  exact ⟨g1, c1, e', hb, o1.same (Sm.of_grown k o1.lt (by
      simp only [ne_eq, Option.some.injEq]
      rintro rfl
      exact ne (OC.tyy o1 o)))⟩
theorem Mk1.lt {w : World} {base : Nat} {p : Option Addr × Nat × Nat} {k mk : List UInt8} (h : Mk1 w base p k mk) (a : Addr) (e : p.1 = some a) : a.block < w.heap.size ∧ base ≤ a.block := by
  obtain ⟨g, c, rfl, hb, o⟩ := h
  cases e
  exact ⟨o.lt, hb⟩
theorem Mk1.read {w : World} {base : Nat} {p : Option Addr × Nat × Nat} {k mk : List UInt8} (h : Mk1 w base p k mk) : RB w p.1 p.2.1 p.2.2 k := by
  obtain ⟨g, c, rfl, hb, o⟩ := h
  have := o.read.take k.length (by omega)
  rwa [List.take_left' rfl] at this
def MkT (w : World) (base : Nat) (z : Cel) : Prop := Mk1 w base z.p z.x.k [161, 162] ∧ Mk1 w base z.q z.x.v [163, 164]
/-- Items that are being lent. -/
structure LT (w : World) (base : Nat) (A : Option Addr) (n c : Nat) (zs : List Cel) : Prop where
  row : GC w base 48 4 A n c (itvs zs)
  each : ∀ z ∈ zs, MkT w base z
  inc : (slots zs).Pairwise Before
theorem LT.nil (w : World) (base : Nat) : LT w base none 0 0 [] := ⟨GC.nil _ _ _ _, (fun z h => by cases h), List.Pairwise.nil⟩
theorem LT.below {w w' : World} {base n c : Nat} {A : Option Addr} {zs : List Cel} (h : LT w base A n c zs) (hb : Below w.heap.size w w') : LT w' base A n c zs :=
  ⟨h.row.below hb, fun z hz => ⟨(h.each z hz).1.below hb, (h.each z hz).2.below hb⟩, h.inc⟩
theorem LT.other {w w' : World} {base n c g e sz n' c' : Nat} {A : Option Addr} {zs : List Cel} {cs : List Value} (h : LT w base A n c zs) (k : w.grownBy w' (some g)) (o : OC w e sz g n' c' cs) (n1 : 5 ≠ e) (n2 : 48 ≠ e) : LT w' base A n c zs :=
  ⟨by
    rcases GC.oc h.row with ⟨rfl, rfl, rfl, hcs⟩ | ⟨g1, rfl, hb, o1⟩
    · rw [hcs]; exact GC.nil _ _ _ _
    · exact GC.of (o1.same (Sm.of_grown k o1.lt (by
        simp only [ne_eq, Option.some.injEq]
        rintro rfl
        exact n2 (OC.tyy o1 o)))) hb, fun z hz => ⟨(h.each z hz).1.other k o n1, (h.each z hz).2.other k o n1⟩, h.inc⟩
theorem LT.cnt' {w : World} {base n c : Nat} {A : Option Addr} {zs : List Cel} (h : LT w base A n c zs) : zs.length = n := by
  have := h.row.1; rw [itvs_length] at this; omega
theorem LT.lt {w : World} {base n c : Nat} {A : Option Addr} {zs : List Cel} (h : LT w base A n c zs) : ∀ s ∈ slots zs, ∀ a, s.1 = some a → a.block < w.heap.size := by
  intro s hs a e
  obtain ⟨z, hz, q⟩ := slots_of hs
  rcases q with rfl | rfl
  · exact ((h.each z hz).1.lt a e).1
  · exact ((h.each z hz).2.lt a e).1
theorem LT.push {w w' : World} {base n c lo g c2 : Nat} {A : Option Addr} {zs : List Cel} {z : Cel} (h : LT w base A n c zs) (hm : MkT w lo z)
    (hpq : Before z.p z.q) (hlo : ∀ s ∈ slots zs, ∀ a, s.1 = some a → a.block < lo) (hb : base ≤ lo) (gx : w.grownBy w' (A.map (·.block))) (o : OC w' 48 4 g (n + 1) c2 (itvs zs ++ itv z)) (hg : base ≤ g) :
    LT w' base (some ⟨g, 0, none⟩) (n + 1) c2 (zs ++ [z]) := by
  refine ⟨by rw [itvs_append, itvs_one']; exact GC.of o hg, ?_, ?_⟩
  · intro y hy
    rcases List.mem_append.1 hy with hy | hy
    · exact ⟨(h.each y hy).1.apart h.row gx (by decide), (h.each y hy).2.apart h.row gx (by decide)⟩
    · rw [List.mem_singleton] at hy
      subst hy
      obtain ⟨⟨g1, c1, e1, b1, o1⟩, ⟨g3, c3, e3, b3, o3⟩⟩ := hm
      exact ⟨⟨g1, c1, e1, Nat.le_trans hb b1, OC.apart o1 h.row gx (by decide)⟩, ⟨g3, c3, e3, Nat.le_trans hb b3, OC.apart o3 h.row gx (by decide)⟩⟩
  · rw [slots_append, List.pairwise_append]
    refine ⟨h.inc, ?_, ?_⟩
    · show [z.p, z.q].Pairwise Before
      simp only [List.pairwise_cons, List.mem_singleton, forall_eq, List.not_mem_nil, false_implies, implies_true, List.Pairwise.nil, and_true]
      exact hpq
    · intro s hs t ht a b ea eb
      have h1 := hlo s hs a ea
      have ht : t = z.p ∨ t = z.q := by simpa [slots] using ht
      rcases ht with rfl | rfl
      · have := (hm.1.lt b eb).2
        omega
      · have := (hm.2.lt b eb).2
        omega
/-- Items lent, one more behind them. -/
def lastT : List Value := [.slice none 0 0, .slice none 0 0, .int .i64 (-77), .int .i64 0]
structure LX (w : World) (base R n c : Nat) (zs : List Cel) : Prop where
  cnt : zs.length = n
  row : OC w 48 4 R (n + 1) c (itvs zs ++ lastT)
  low : base ≤ R
  each : ∀ z ∈ zs, MkT w base z
  inc : (slots zs).Pairwise Before
theorem LX.below {w w' : World} {base R n c : Nat} {zs : List Cel} (h : LX w base R n c zs) (hb : Below w.heap.size w w') : LX w' base R n c zs :=
  ⟨h.cnt, h.row.below hb, h.low, fun z hz => ⟨(h.each z hz).1.below hb, (h.each z hz).2.below hb⟩, h.inc⟩
theorem LX.other {w w' : World} {base R n c g e sz n' c' : Nat} {zs : List Cel} {cs : List Value} (h : LX w base R n c zs) (k : w.grownBy w' (some g)) (o : OC w e sz g n' c' cs) (n1 : 5 ≠ e) (n2 : 48 ≠ e) : LX w' base R n c zs :=
  ⟨h.cnt, h.row.same (Sm.of_grown k h.row.lt (by
        simp only [ne_eq, Option.some.injEq]
        rintro rfl
        exact n2 (OC.tyy h.row o))), h.low, fun z hz => ⟨(h.each z hz).1.other k o n1, (h.each z hz).2.other k o n1⟩, h.inc⟩
theorem LX.read {w : World} {base R n c c2 : Nat} {zs : List Cel} (h : LX w base R n c zs) (hc : n ≤ c2) (hc2 : c2 ≤ c) : RT w (some ⟨R, 0, none⟩) n c2 (itvs zs) (its zs) := by
  have hr := OC.read (h.row.take n (by omega))
  rw [List.take_left' (by rw [itvs_length, h.cnt])] at hr
  refine ⟨⟨hr.len, hc, Nat.le_trans hc2 hr.mx, (fun e => by cases e), hr.cell⟩, by rw [its_length, h.cnt], fun j x hj => ?_⟩
  obtain ⟨z, hz, rfl⟩ : ∃ z, zs[j]? = some z ∧ z.x = x := by
    unfold its at hj
    rw [List.getElem?_map] at hj
    rcases hz : zs[j]? with _ | z
    · rw [hz] at hj; cases hj
    · rw [hz] at hj; cases hj; exact ⟨z, rfl, rfl⟩
  obtain ⟨e1, e2, e3, e4⟩ := itvs_get zs j z hz
  have hm := h.each z (List.mem_of_getElem? hz)
  exact ⟨z.p, z.q, e1, e2, e3, e4, hm.1.read, hm.2.read⟩
end Go.Proofs.Ytieoleiokjoccaa
