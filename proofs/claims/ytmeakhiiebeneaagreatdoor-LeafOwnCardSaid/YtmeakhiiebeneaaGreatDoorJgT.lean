/- coppicekept.Book where lists of bytes and of items are kept: grow, Finish. -/
import Derived.Test.YtmeakhiiebeneaaGreatDoorJfT
import Derived.Test.YtmeakhiiebeneaaGreatDoorJb
import Derived.Test.YtmeakhiiebeneaaGreatDoorKp
namespace Go.Proofs.YtmeakhiiebeneaaGreatDoor
open Go.RowKit

theorem Dj.next {F G F' G' : Nat → Prop} {S S1 : Nat} (h : Dj F G) (h1 : ∀ g, F' g → F g ∨ S ≤ g) (h2 : ∀ g, G' g → G g ∨ S1 ≤ g) (f1 : ∀ g, F g → g < S) (f2 : ∀ g, G g → g < S) (f3 : ∀ g, F' g → g < S1) (hS : S ≤ S1) : Dj F' G' := by
  intro g q z
  rcases h1 g q with a | a <;> rcases h2 g z with b | b
  · exact h g a b
  · have := f1 g a; omega
  · have := f2 g b; omega
  · have := f3 g q; omega
/-- behind t turns. -/
def GT (gk base B2 m mt Kb Kt : Nat) (p : Int) (r t : Row) (b2 b4 : Value) (css cst : List (List Value)) (n : Nat) (F0 G0 : Nat → Prop) (S : Nat) (w : World) : Prop :=
  ∃ (Ag Atg : Option Addr) (mg cg mtg ctg : Nat) (F G : Nat → Prop), Bk w gk (bookT p (r.v m) b2 (.slice Ag mg cg) (t.v mt) b4 (.slice Atg mtg ctg)) ∧
    GSt w base B2 5 1 40 m r.c r.A r.ps css (MarkedB p 0 m) Kb n mg cg Ag F ∧ GSt w base B2 133 4 89 mt t.c t.A t.ps cst (MarkR (mkI p) m mt) Kt n mtg ctg Atg G ∧ Dj F G ∧ ¬ F gk ∧ ¬ G gk ∧ (∀ g, F g → F0 g ∨ S ≤ g) ∧ (∀ g, G g → G0 g ∨ S ≤ g)
set_option maxRecDepth 100000 in
set_option maxHeartbeats 8000000 in
theorem grow_T (gk base m mt Kb Kt : Nat) (p : Int) (r t : Row) (b2 b4 : Value) (css cst : List (List Value)) (w : World) (hk : Bk w gk (bookT p (r.v m) b2 nilV (t.v mt) b4 nilV)) (h : LS w base 5 1 40 r.A m r.c r.ps css) (hm : MarkedB p 0 m css) (hl : ∀ cs ∈ css, cs.length ≤ Kb * 1) (ht : LS w base 133 4 89 t.A mt t.c t.ps cst) (htm : MarkR (mkI p) m mt cst) (htl : ∀ cs ∈ cst, cs.length ≤ Kt * 4)
    (K1 : Kb ≤ 1000000) (K2 : Kt ≤ 1000000) (m1 : m ≤ 900000) (m2 : mt ≤ 900000) (hb : base ≤ w.heap.size) (p0 : 0 ≤ p) (p1 : p ≤ 1) :
    Calls Tryz.prog 70 #[.pointer (some ⟨gk, 0, none⟩)] w fun e w' => ∃ v, e = .returned v ∧ GT gk base w.heap.size m mt Kb Kt p r t b2 b4 css cst 70 (Blk r.A r.ps) (Blk t.A t.ps) w.heap.size w' ∧ Out (fun g => g = gk ∨ Blk r.A r.ps g ∨ Blk t.A t.ps g) w w' := by
  have dj := h.blkDj ht (by decide) (by decide) (by decide) (by decide)
  have nb : ¬ Blk r.A r.ps gk := by
    rintro (q | q)
    · exact absurd (ty_ne ⟨_, _, _, hk⟩ (h.inb q)) (by decide)
    · exact absurd (ty_ne ⟨_, _, _, hk⟩ (h.row.atb q)) (by decide)
  have nt : ¬ Blk t.A t.ps gk := by
    rintro (q | q)
    · exact absurd (ty_ne ⟨_, _, _, hk⟩ (ht.inb q)) (by decide)
    · exact absurd (ty_ne ⟨_, _, _, hk⟩ (ht.row.atb q)) (by decide)
  have G0 : Hid (GT gk base w.heap.size m mt Kb Kt p r t b2 b4 css cst 0 (Blk r.A r.ps) (Blk t.A t.ps) w.heap.size w) := hideIt ⟨none, none, 0, 0, 0, 0, _, _, hk, h.gst hm hl, ht.gst htm htl, dj, nb, nt, fun _ q => Or.inl q, fun _ q => Or.inl q⟩
  have HB := hideIt hb
  clear dj nb nt hb hk h hm hl ht htm htl
  go_enter Tryz.func70, Tryz.ntmps70
  go_wp2
  go_loopw [2] (fun tt wr => ∃ n : Nat, n ≤ 70 ∧ tt = .int .i64 (n : Int) ∧ Hid (GT gk base w.heap.size m mt Kb Kt p r t b2 b4 css cst n (Blk r.A r.ps) (Blk t.A t.ps) w.heap.size wr) ∧ Out (fun g => g = gk ∨ Blk r.A r.ps g ∨ Blk t.A t.ps g) w wr)
    (fun tt _ => 70 - (intOf tt).toNat)
  case atStart => exact ⟨0, by omega, rfl, G0, Out.refl _ _⟩
  case round =>
    clear G0
    obtain ⟨n, hn, rfl, HS, ou⟩ := hrel
    by_cases hlt : n < 70
    · have t1 : (n : Int) < 70 := by omega
      obtain ⟨Ag, Atg, mg, cg, mtg, ctg, F, G, bk, gb, gi, dj, nf, ng, cf, cg'⟩ := HS.out
      have zb := ou.size
      have zb1 := Nat.le_trans HB.out zb
      have BG : Calls Tryz.prog 155 #[.pointer (some ⟨gk, 0, none⟩), .int .i64 0, .int .i64 (n : Int)] wr (GrOut gk base w.heap.size 5 1 40 m r.c 0 Kb n 4 r.A r.ps css (MarkedB p 0 m) (bookT p (r.v m) b2 (.slice Ag mg cg) (t.v mt) b4 (.slice Atg mtg ctg)) F wr) := bytesGrow_t gk base w.heap.size m r.c 0 Kb n mg cg p r.A Ag r.ps _ css F wr bk rfl rfl rfl gb hn K1 m1 (by decide) zb1 zb
      have c0 := OC.cell bk 0 (.int .i64 0) rfl
      have glr := bk.lt
      have HGI := hideIt gi
      have HDJ := hideIt dj
      have HFL := hideIt gb.fl
      have HGL := hideIt gi.fl
      have HNG := hideIt (show ¬ F gk ∧ ¬ G gk from ⟨nf, ng⟩)
      have HCF := hideIt (show (∀ g, F g → Blk r.A r.ps g ∨ w.heap.size ≤ g) ∧ (∀ g, G g → Blk t.A t.ps g ∨ w.heap.size ≤ g) from ⟨cf, cg'⟩)
      clear gb gi HS hlt dj nf ng cf cg'
      go_upto_region 5 with (go_at_call 155; refine BG.mono ?_; intro en w1 q1; obtain ⟨Ag1, cg1, F1, rfl, gb1, bk1, cf1, ou1⟩ := q1)
      have bk1' : Bk w1 gk (bookT p (r.v m) b2 (.slice Ag1 m cg1) (t.v mt) b4 (.slice Atg mtg ctg)) := bk1
      have C5 := OC.cell bk1' 5 (.slice none 0 0) rfl
      have C8 := OC.cell bk1' 8 (.slice none 0 0) rfl
      have C11 := OC.cell bk1' 11 (.slice none 0 0) rfl
      have C14 := OC.cell bk1' 14 (.slice none 0 0) rfl
      have C17 := OC.cell bk1' 17 (.slice none 0 0) rfl
      have C23 := OC.cell bk1' 23 (.slice none 0 0) rfl
      have C26 := OC.cell bk1' 26 (.slice none 0 0) rfl
      have C29 := OC.cell bk1' 29 (.slice none 0 0) rfl
      have C32 := OC.cell bk1' 32 (.slice none 0 0) rfl
      have C35 := OC.cell bk1' 35 (.slice none 0 0) rfl
      have C38 := OC.cell bk1' 38 (.slice none 0 0) rfl
      have gi1 := HGI.out.out ou1 (fun g q => by
        rintro (rfl | z)
        · exact HNG.out.2 q
        · exact HDJ.out g z q)
      have zb2 := Nat.le_trans zb ou1.size
      have zb3 := Nat.le_trans zb1 ou1.size
      have IG : Calls Tryz.prog 161 #[.pointer (some ⟨gk, 0, none⟩), .int .i64 (m : Int), .int .i64 (n : Int)] w1 (GrOut gk base w.heap.size 133 4 89 mt t.c m Kt n 22 t.A t.ps cst (MarkR (mkI p) m mt) (bookT p (r.v m) b2 (.slice Ag1 m cg1) (t.v mt) b4 (.slice Atg mtg ctg)) G w1) := itemsGrow_t gk base w.heap.size mt t.c m Kt n mtg ctg p t.A Atg t.ps _ cst G w1 bk1' rfl rfl rfl gi1 hn K2 m2 (by omega) zb3 zb2 p0 p1
      have HG1 := hideIt gb1
      have HF1 := hideIt cf1
      have HOU1 := hideIt ou1
      clear BG bk bk1 bk1' gb1 gi1 cf1 c0
      go_wp2_with (first
        | (go_at_call 156; refine (intsGrow_nil gk _ _ _ C5).mono ?_; rintro en wx ⟨rfl, rfl⟩)
        | (go_at_call 157; refine (textsGrow_nil gk _ _ _ C8).mono ?_; rintro en wx ⟨rfl, rfl⟩)
        | (go_at_call 158; refine (byteListsGrow_nil gk _ _ _ C11).mono ?_; rintro en wx ⟨rfl, rfl⟩)
        | (go_at_call 159; refine (intListsGrow_nil gk _ _ _ C14).mono ?_; rintro en wx ⟨rfl, rfl⟩)
        | (go_at_call 160; refine (pairsGrow_nil gk _ _ _ C17).mono ?_; rintro en wx ⟨rfl, rfl⟩)
        | (go_at_call 162; refine (kidsGrow_nil gk _ _ _ C23).mono ?_; rintro en wx ⟨rfl, rfl⟩)
        | (go_at_call 163; refine (nodesGrow_nil gk _ _ _ C26).mono ?_; rintro en wx ⟨rfl, rfl⟩)
        | (go_at_call 164; refine (writesGrow_nil gk _ _ _ C29).mono ?_; rintro en wx ⟨rfl, rfl⟩)
        | (go_at_call 165; refine (changesGrow_nil gk _ _ _ C32).mono ?_; rintro en wx ⟨rfl, rfl⟩)
        | (go_at_call 166; refine (fatesGrow_nil gk _ _ _ C35).mono ?_; rintro en wx ⟨rfl, rfl⟩)
        | (go_at_call 167; refine (opsGrow_nil gk _ _ _ C38).mono ?_; rintro en wx ⟨rfl, rfl⟩)
        | (go_at_call 161; (with_reducible refine IG.mono ?_); intro en w2 q2; obtain ⟨Ag2, cg2, G2, rfl, gi2, bk2, cf2, ou2⟩ := q2; have bk2' : Bk w2 gk (bookT p (r.v m) b2 (.slice Ag1 m cg1) (t.v mt) b4 (.slice Ag2 mt cg2)) := bk2; have C23 := OC.cell bk2' 23 (.slice none 0 0) rfl; have C26 := OC.cell bk2' 26 (.slice none 0 0) rfl; have C29 := OC.cell bk2' 29 (.slice none 0 0) rfl; have C32 := OC.cell bk2' 32 (.slice none 0 0) rfl; have C35 := OC.cell bk2' 35 (.slice none 0 0) rfl; have C38 := OC.cell bk2' 38 (.slice none 0 0) rfl))
      have nf1 : ¬ F1 gk := fun q => by
        rcases HF1.out gk q with z | z
        · exact HNG.out.1 z
        · omega
      have gb2 := HG1.out.out ou2 (fun g q => by
        rintro (rfl | z)
        · exact nf1 q
        · rcases HF1.out g q with a | a
          · exact HDJ.out g a z
          · have := HGL.out g z; omega)
      have GN : Hid (GT gk base w.heap.size m mt Kb Kt p r t b2 b4 css cst (n + 1) (Blk r.A r.ps) (Blk t.A t.ps) w.heap.size w2) := hideIt ⟨Ag1, Ag2, m, cg1, mt, cg2, F1, G2, bk2', gb2, gi2, HDJ.out.next HF1.out cf2 HFL.out HGL.out HG1.out.fl HOU1.out.size, nf1, (fun q => by
        rcases cf2 gk q with z | z
        · exact HNG.out.2 z
        · have := HOU1.out.size; omega), (fun g q => by
        rcases HF1.out g q with z | z
        · exact HCF.out.1 g z
        · exact Or.inr (Nat.le_trans zb z)), (fun g q => by
        rcases cf2 g q with z | z
        · exact HCF.out.2 g z
        · exact Or.inr (Nat.le_trans zb2 z))⟩
      have ouN := (ou.trans HOU1.out (fun g q => by
        rcases q with q | q
        · exact Or.inl (Or.inl q)
        · rcases HCF.out.1 g q with z | z
          · exact Or.inl (Or.inr (Or.inl z))
          · exact Or.inr z)).trans ou2 (fun g q => by
        rcases q with q | q
        · exact Or.inl (Or.inl q)
        · rcases HCF.out.2 g q with z | z
          · exact Or.inl (Or.inr (Or.inr z))
          · exact Or.inr z)
      clear gb2 gi2 bk2 bk2' cf2 ou2 IG nf1
      go_roundw
      case rel => exact ⟨n + 1, by omega, by go_num, GN, ouN⟩
      case measure => simp [intOf]; omega
    · obtain rfl : n = 70 := by omega
      go_wp2
      go_end0
      exact ⟨_, rfl, HS.out, ou⟩
theorem GSt.done {w : World} {base B2 e sz rt m cb : Nat} {Ab : Option Addr} {ps : List Slot} {css : List (List Value)} {M : List (List Value) → Prop} {K t mg cg : Nat} {Ag : Option Addr} {F : Nat → Prop} (h : GSt w base B2 e sz rt m cb Ab ps css M K t mg cg Ag F) (ht : 0 < t) : ∃ qs zss, mg = m ∧ RS w sz Ab m cb ps css ∧ RS w sz Ag m cg qs zss ∧ M zss ∧ (∀ zs ∈ zss, zs.length ≤ (K + t) * sz) := by
  rcases h.now with ⟨z, _⟩ | ⟨_, e1, qs, zss, rg, gr, hm, hl, _, _⟩
  · omega
  · exact ⟨qs, zss, e1, gr.old (GC.read h.ra), gr.now (GC.read rg), hm, hl⟩
set_option maxRecDepth 100000 in
set_option maxHeartbeats 8000000 in
theorem Finish_T (gk base m mt : Nat) (r s t u : Row) (xss : List (List UInt8)) (tss uss : List (List Cel)) (w : World) (hk : Bk w gk (bookT 0 (r.v m) (s.v m) nilV (t.v mt) (u.v mt) nilV)) (hB : Kp w base 5 1 40 m r s (xss.map u8s) (xss.map u8s)) (hI : Ki w base mt t u tss uss) (hs : ∀ xs ∈ xss, xs.length ≤ 900000) (hts : ∀ zs ∈ tss, zs.length ≤ 900000) (hm : m ≤ 900000) (hmt : mt ≤ 900000) (hb : base ≤ w.heap.size) :
    Calls Tryz.prog 20 #[.pointer (some ⟨gk, 0, none⟩)] w fun e w' => e = .returned (.bool true) ∧ Out (fun g => g = gk ∨ base ≤ g) w w' := by
  have HK : Hid (∀ cs ∈ xss.map u8s, cs.length ≤ 900000) := hideIt fun cs hc => by
    obtain ⟨xs, hx, rfl⟩ := List.mem_map.1 hc
    rw [u8s_length]; exact hs xs hx
  have HKT : Hid (∀ cs ∈ tss.map itvs, cs.length ≤ 900000 * 4) := hideIt fun cs hc => by
    obtain ⟨zs, hz, rfl⟩ := List.mem_map.1 hc
    rw [itvs_length]; have := hts zs hz; omega
  have HB := hideIt hb
  have UN := Untouched_T gk base m mt r s t u xss tss uss w hk hB hI (by omega) (by omega)
  have HLB := hideIt hB.ls
  have HLT := hideIt hI.kp.ls
  clear hb hB hI hs hts
  go_enter Tryz.func20, Tryz.ntmps20
  go_upto_region 2 with (go_at_call 67; refine UN.mono ?_; rintro en w1 ⟨rfl, d1⟩)
  have bk1 := hk.below d1
  have ls1 := HLB.out.below d1
  have lt1 := HLT.out.below d1
  have ou1 : Out (fun g => g = gk ∨ base ≤ g) w w1 := Out.of_below d1
  clear UN hk d1
  have WR := write_T gk base m mt 900000 0 r t _ _ _ _ _ _ w1 bk1 ls1 (ShortB.of HK.out) lt1 HKT.out (by omega) (by omega) (by decide) (by decide) (by decide)
  clear bk1 ls1 lt1
  go_upto_region 3 with (go_at_call 68; refine WR.mono ?_; intro en w2 q2; obtain ⟨v2, rfl, cs2, ct2, ls2, sh2, mk2, lt2, mt2, bk2, o2⟩ := q2)
  have ou2 := ou1.trans o2 (fun g q => by
    rcases q with q | q
    · exact Or.inl (Or.inr (InPs.base ls2 q))
    · exact Or.inl (Or.inr (InPs.base lt2 q)))
  have HT2 := hideIt (HLT.out.lens lt2 HKT.out)
  clear WR ou1 o2
  have HO := Holds_T gk m mt 0 0 0 0 900000 900000 0 r t none none _ _ [] [] cs2 [] ct2 [] w2 bk2 ls2.read mk2 sh2 (RS.none _ _) (Or.inl rfl) (MarkedB.nil _ _ _) (fun cs hc => by cases hc) lt2.read mt2 HT2.out (RS.none _ _) (Or.inl rfl) (MarkR.nil _ _ _) (fun cs hc => by cases hc) (by omega) (by omega) (by decide) (by decide) (by decide) (by decide)
  clear mk2 mt2
  go_upto_region 4 with (go_at_call 69; refine HO.mono ?_; rintro en w2h ⟨rfl, x2h⟩)
  replace bk2 := bk2.below x2h
  replace ls2 := ls2.below x2h
  replace lt2 := lt2.below x2h
  replace ou2 := ou2.step x2h
  clear x2h HO w2
  have cp := OC.cell bk2 1 (.int .i64 0) rfl
  have fp := OC.free bk2 1
  have bk3 : Bk (w2h.setCell ⟨gk, 1, none⟩ (.int .i64 1)) gk (bookT 1 (r.v m) (s.v m) nilV (t.v mt) (u.v mt) nilV) := OC.set bk2 1 (.int .i64 1)
  have ls3 := ls2.booked bk2 (by decide) (by decide) 1 (.int .i64 1)
  have lt3 := lt2.booked bk2 (by decide) (by decide) 1 (.int .i64 1)
  have ou3 := ou2.grow (gset w2h gk 1 (.int .i64 1)) (fun g q => by cases q; exact Or.inl (Or.inl rfl))
  have SH2 := hideIt sh2
  clear bk2 ls2 lt2 ou2 sh2
  go_upto_region 5 with fail
  clear cp fp
  generalize w2h.setCell ⟨gk, 1, none⟩ (.int .i64 1) = w3 at bk3 ls3 lt3 ou3 ⊢
  have WR := write_T gk base m mt 900000 1 r t _ _ _ _ _ _ w3 bk3 ls3 SH2.out lt3 HT2.out (by omega) (by omega) (by decide) (by decide) (by decide)
  clear bk3 ls3 lt3 SH2
  go_upto_region 6 with (go_at_call 68; refine WR.mono ?_; intro en w4 q4; obtain ⟨v4, rfl, cs4, ct4, ls4, sh4, mk4, lt4, mt4, bk4, o4⟩ := q4)
  have ou4 := ou3.trans o4 (fun g q => by
    rcases q with q | q
    · exact Or.inl (Or.inr (InPs.base ls4 q))
    · exact Or.inl (Or.inr (InPs.base lt4 q)))
  have HK4 := hideIt (HLB.out.lens ls4 HK.out)
  have HT4 := hideIt (HLT.out.lens lt4 HKT.out)
  clear WR ou3 o4
  have HO := Holds_T gk m mt 0 0 0 0 900000 900000 1 r t none none _ _ [] [] cs4 [] ct4 [] w4 bk4 ls4.read mk4 sh4 (RS.none _ _) (Or.inl rfl) (MarkedB.nil _ _ _) (fun cs hc => by cases hc) lt4.read mt4 HT4.out (RS.none _ _) (Or.inl rfl) (MarkR.nil _ _ _) (fun cs hc => by cases hc) (by omega) (by omega) (by decide) (by decide) (by decide) (by decide)
  go_upto_region 7 with (go_at_call 69; refine HO.mono ?_; rintro en w5 ⟨rfl, x5⟩)
  have bk5 := bk4.below x5
  have ls5 := ls4.below x5
  have lt5 := lt4.below x5
  have ou5 := ou4.step x5
  clear x5 HO bk4 ls4 lt4 ou4 w4
  have zb5 := Nat.le_trans HB.out ou5.size
  have GB' := grow_T gk base m mt 900000 900000 1 r t _ _ cs4 ct4 w5 bk5 ls5 mk4 (fun cs h => by have := HK4.out cs h; omega) lt5 mt4 HT4.out (by decide) (by decide) hm hmt zb5 (by decide) (by decide)
  have MK4 := hideIt mk4
  have MT4 := hideIt mt4
  have SH4 := hideIt sh4
  have LBL : Hid (∀ g, Blk r.A r.ps g ∨ Blk t.A t.ps g → base ≤ g) := hideIt fun g q => by
    rcases q with (q | ⟨a, ea, rfl⟩) | (q | ⟨a, ea, rfl⟩)
    · exact InPs.base ls5 q
    · exact (ls5.row.lt a ea).2
    · exact InPs.base lt5 q
    · exact (lt5.row.lt a ea).2
  clear bk5 ls5 lt5 sh4 mk4 mt4
  go_upto_region 8 with (go_at_call 70; refine GB'.mono ?_; intro en w6 q6; obtain ⟨v6, rfl, ⟨Ag, Atg, mg, cg, mtg, ctg, F, G, bk6, gb6, gi6, -, -, -, -, -⟩, o6⟩ := q6)
  have ou6 := ou5.trans o6 (fun g q => by
    rcases q with q | q
    · exact Or.inl (Or.inl q)
    · exact Or.inl (Or.inr (LBL.out g q)))
  obtain ⟨qs, zss, rfl, r1, r2, r3, r4⟩ := gb6.done (by decide)
  obtain ⟨tqs, zst, rfl, i1, i2, i3, i4⟩ := gi6.done (by decide)
  have HO := Holds_T gk mg mtg mg mtg cg ctg 900000 (900000 + 70) 1 r t Ag Atg _ _ qs tqs cs4 zss ct4 zst w6 bk6 r1 MK4.out SH4.out r2 (Or.inr rfl) r3 (fun cs hc => by have := r4 cs hc; omega) i1 MT4.out HT4.out i2 (Or.inr rfl) i3 i4 (by omega) (by omega) (by decide) (by decide) (by decide) (by decide)
  clear GB' bk6 gb6 gi6 r1 r2 r3 r4 i1 i2 i3 i4 o6 ou5
  go_wp2_with (go_at_call 69; refine HO.mono ?_; rintro en w7 ⟨rfl, x7⟩)
  have ou7 := ou6.step x7
  go_ret
  exact ⟨rfl, ou7⟩
end Go.Proofs.YtmeakhiiebeneaaGreatDoor
