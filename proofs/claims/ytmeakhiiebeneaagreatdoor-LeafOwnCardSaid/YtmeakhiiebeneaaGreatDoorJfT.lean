/- coppicekept.Book where lists of bytes and of items are kept: Untouched, write, Holds, grow, Finish. -/
import Derived.Test.YtmeakhiiebeneaaGreatDoorJu
import Derived.Test.YtmeakhiiebeneaaGreatDoorKe
namespace Go.Proofs.YtmeakhiiebeneaaGreatDoor
open Go.RowKit

/-- the cells of a book in which lists of bytes and of items are kept. -/
def bookT (p : Int) (b bw bg t tw tg : Value) : List Value := [.int .i64 0, .int .i64 p, b, bw, bg, .slice none 0 0, .slice none 0 0, .slice none 0 0, .slice none 0 0, .slice none 0 0, .slice none 0 0, .slice none 0 0, .slice none 0 0, .slice none 0 0, .slice none 0 0, .slice none 0 0, .slice none 0 0, .slice none 0 0, .slice none 0 0, .slice none 0 0, t, tw, tg, .slice none 0 0, .slice none 0 0, .slice none 0 0, .slice none 0 0, .slice none 0 0, .slice none 0 0, .slice none 0 0, .slice none 0 0, .slice none 0 0, .slice none 0 0, .slice none 0 0, .slice none 0 0, .slice none 0 0, .slice none 0 0, .slice none 0 0, .slice none 0 0, .slice none 0 0, .slice none 0 0]
def nilV : Value := .slice none 0 0
/-- no block of the one is a block of the other. -/
def Dj (F G : Nat → Prop) : Prop := ∀ g, F g → ¬ G g
theorem LS.blkDj {w : World} {base base' e e' sz sz' rt rt' n c n' c' : Nat} {A A' : Option Addr} {ps ps' : List Slot} {css css' : List (List Value)} (h : LS w base e sz rt A n c ps css) (k : LS w base' e' sz' rt' A' n' c' ps' css') (n1 : e ≠ e') (n2 : e ≠ rt') (n3 : rt ≠ e') (n4 : rt ≠ rt') : Dj (Blk A ps) (Blk A' ps') := by
  rintro g (q | q) (z | z)
  · exact n1 (ty_ne (h.inb q) (k.inb z))
  · exact n2 (ty_ne (h.inb q) (k.row.atb z))
  · exact n3 (ty_ne (h.row.atb q) (k.inb z))
  · exact n4 (ty_ne (h.row.atb q) (k.row.atb z))
theorem LS.outDj {w w' : World} {base e sz rt n c : Nat} {A : Option Addr} {ps : List Slot} {css : List (List Value)} {D : Nat → Prop} (h : LS w base e sz rt A n c ps css) (ou : Out D w w') (d : Dj (Blk A ps) D) : LS w' base e sz rt A n c ps css :=
  h.out ou (fun g q => d g (Or.inr q)) (fun g q => d g (Or.inl q))
set_option maxRecDepth 100000 in
set_option maxHeartbeats 4000000 in
theorem Untouched_T (gk base m mt : Nat) (r s t u : Row) (xss : List (List UInt8)) (tss uss : List (List Cel)) (w : World) (hk : Bk w gk (bookT 0 (r.v m) (s.v m) nilV (t.v mt) (u.v mt) nilV)) (hB : Kp w base 5 1 40 m r s (xss.map u8s) (xss.map u8s)) (hI : Ki w base mt t u tss uss) (hm : m ≤ 1000000) (hmt : mt ≤ 1000000) :
    Calls Tryz.prog 67 #[.pointer (some ⟨gk, 0, none⟩)] w fun e w' => e = .returned (.bool true) ∧ Below w.heap.size w w' := by
  have UB := bytesUntouched_calls gk m r.c s.c r.A s.A _ _ xss w (OC.cell hk 2 _ rfl) (OC.cell hk 3 _ rfl) hB.ls.read.rm hB.lw.read.rm (by omega)
  have HI := hideIt hI
  clear hB hI
  go_enter Tryz.func67, Tryz.ntmps67
  go_upto_region 4 with (go_at_call 116; refine UB.mono ?_; rintro en w1 ⟨rfl, j1, h1⟩; have H1 := hideIt (below_same (below_drewN (Below.refl _ _) j1) h1 : Below w.heap.size w w1); clear h1)
  have bk1 := hk.below H1.out
  have C5 := OC.cell bk1 5 (.slice none 0 0) rfl
  have C8 := OC.cell bk1 8 (.slice none 0 0) rfl
  have C11 := OC.cell bk1 11 (.slice none 0 0) rfl
  have C14 := OC.cell bk1 14 (.slice none 0 0) rfl
  have C17 := OC.cell bk1 17 (.slice none 0 0) rfl
  have C23 := OC.cell bk1 23 (.slice none 0 0) rfl
  have C26 := OC.cell bk1 26 (.slice none 0 0) rfl
  have C29 := OC.cell bk1 29 (.slice none 0 0) rfl
  have C32 := OC.cell bk1 32 (.slice none 0 0) rfl
  have C35 := OC.cell bk1 35 (.slice none 0 0) rfl
  have C38 := OC.cell bk1 38 (.slice none 0 0) rfl
  have UI := itemsUntouched_calls gk base mt t u tss uss w1 (OC.cell bk1 20 _ rfl) (OC.cell bk1 21 _ rfl) (HI.out.below H1.out) hmt
  have HBK := hideIt bk1
  clear UB bk1 hk
  go_wp2_with (first
    | (go_at_call 117; refine (intsUntouched_nil gk _ C5).mono ?_; rintro en wx ⟨rfl, rfl⟩)
    | (go_at_call 118; refine (textsUntouched_nil gk _ C8).mono ?_; rintro en wx ⟨rfl, rfl⟩)
    | (go_at_call 119; refine (byteListsUntouched_nil gk _ C11).mono ?_; rintro en wx ⟨rfl, rfl⟩)
    | (go_at_call 120; refine (intListsUntouched_nil gk _ C14).mono ?_; rintro en wx ⟨rfl, rfl⟩)
    | (go_at_call 121; refine (pairsUntouched_nil gk _ C17).mono ?_; rintro en wx ⟨rfl, rfl⟩)
    | (go_at_call 123; refine (kidsUntouched_nil gk _ C23).mono ?_; rintro en wx ⟨rfl, rfl⟩)
    | (go_at_call 124; refine (nodesUntouched_nil gk _ C26).mono ?_; rintro en wx ⟨rfl, rfl⟩)
    | (go_at_call 125; refine (writesUntouched_nil gk _ C29).mono ?_; rintro en wx ⟨rfl, rfl⟩)
    | (go_at_call 126; refine (changesUntouched_nil gk _ C32).mono ?_; rintro en wx ⟨rfl, rfl⟩)
    | (go_at_call 127; refine (fatesUntouched_nil gk _ C35).mono ?_; rintro en wx ⟨rfl, rfl⟩)
    | (go_at_call 128; refine (opsUntouched_nil gk _ C38).mono ?_; rintro en wx ⟨rfl, rfl⟩)
    | (go_at_call 122; (with_reducible refine UI.mono ?_); rintro en w2 ⟨rfl, x2⟩; have bk2 := HBK.out.below x2; have C23 := OC.cell bk2 23 (.slice none 0 0) rfl; have C26 := OC.cell bk2 26 (.slice none 0 0) rfl; have C29 := OC.cell bk2 29 (.slice none 0 0) rfl; have C32 := OC.cell bk2 32 (.slice none 0 0) rfl; have C35 := OC.cell bk2 35 (.slice none 0 0) rfl; have C38 := OC.cell bk2 38 (.slice none 0 0) rfl; have b2 := hideIt (blw_step H1.out x2)))
  go_ret
  exact ⟨rfl, b2.out⟩
/-- what write leaves. -/
def WroteT (gk base m mt : Nat) (p : Int) (r t : Row) (b2 b3 b4 b5 : Value) (w w' : World) : Prop :=
  ∃ css' cst', LS w' base 5 1 40 r.A m r.c r.ps css' ∧ ShortB css' ∧ MarkedB p 0 m css' ∧ LS w' base 133 4 89 t.A mt t.c t.ps cst' ∧ MarkR (mkI p) m mt cst' ∧ Bk w' gk (bookT p (r.v m) b2 b3 (t.v mt) b4 b5) ∧ Out (fun g => InPs r.ps g ∨ InPs t.ps g) w w'
set_option maxRecDepth 100000 in
set_option maxHeartbeats 4000000 in
theorem write_T (gk base m mt K : Nat) (p : Int) (r t : Row) (css cst : List (List Value)) (b2 b3 b4 b5 : Value) (w : World) (hk : Bk w gk (bookT p (r.v m) b2 b3 (t.v mt) b4 b5)) (h : LS w base 5 1 40 r.A m r.c r.ps css) (hs : ShortB css) (ht : LS w base 133 4 89 t.A mt t.c t.ps cst) (hts : ∀ cs ∈ cst, cs.length ≤ K * 4) (hm : m ≤ 1000000) (hmt : mt ≤ 1000000) (p0 : 0 ≤ p) (p1 : p ≤ 1) (hK : K ≤ 1000000) :
    Calls Tryz.prog 68 #[.pointer (some ⟨gk, 0, none⟩)] w fun e w' => ∃ v, e = .returned v ∧ WroteT gk base m mt p r t b2 b3 b4 b5 w w' := by
  have WB : Calls Tryz.prog 129 #[.pointer (some ⟨gk, 0, none⟩), .int .i64 0] w (WriteB base m r.c 0 gk p r.A r.ps (bookT p (r.v m) b2 b3 (t.v mt) b4 b5) w) := bytesWrite_calls gk base m r.c 0 p r.A r.ps _ css w hk rfl rfl h hs hm (by decide)
  have DJ := hideIt (h.blkDj ht (by decide) (by decide) (by decide) (by decide))
  have HT := hideIt ht
  have HTS := hideIt hts
  have c0 := OC.cell hk 0 (.int .i64 0) rfl
  clear ht hts
  go_enter Tryz.func68, Tryz.ntmps68
  go_upto_region 2 with (go_at_call 129; refine WB.mono ?_; intro en w1 q1; obtain ⟨css', rfl, ls1, sh1, mk1, bk1, ou1⟩ := q1)
  have C5 := OC.cell bk1 5 (.slice none 0 0) rfl
  have C8 := OC.cell bk1 8 (.slice none 0 0) rfl
  have C11 := OC.cell bk1 11 (.slice none 0 0) rfl
  have C14 := OC.cell bk1 14 (.slice none 0 0) rfl
  have C17 := OC.cell bk1 17 (.slice none 0 0) rfl
  have C23 := OC.cell bk1 23 (.slice none 0 0) rfl
  have C26 := OC.cell bk1 26 (.slice none 0 0) rfl
  have C29 := OC.cell bk1 29 (.slice none 0 0) rfl
  have C32 := OC.cell bk1 32 (.slice none 0 0) rfl
  have C35 := OC.cell bk1 35 (.slice none 0 0) rfl
  have C38 := OC.cell bk1 38 (.slice none 0 0) rfl
  have lt1 := HT.out.outDj ou1 (fun g q z => DJ.out g (Or.inl z) q)
  have WI : Calls Tryz.prog 135 #[.pointer (some ⟨gk, 0, none⟩), .int .i64 (m : Int)] w1 (WriteI base mt t.c m gk p t.A t.ps (bookT p (r.v m) b2 b3 (t.v mt) b4 b5) w1) := itemsWrite_calls gk base mt t.c m K p t.A t.ps _ cst w1 bk1 rfl rfl lt1 HTS.out hmt hm p0 p1 hK
  have POST : Hid (LS w1 base 5 1 40 r.A m r.c r.ps css' ∧ ShortB css' ∧ MarkedB p 0 m css' ∧ Out (InPs r.ps) w w1) := hideIt ⟨ls1, sh1, mk1, ou1⟩
  have HM : Hid (m ≤ 1000000) := hideIt hm
  clear WB ls1 sh1 mk1 bk1 ou1 c0 hk h hs lt1
  go_wp2_with (first
    | (go_at_call 130; refine (intsWrite_nil gk _ _ C5).mono ?_; rintro en wx ⟨rfl, rfl⟩)
    | (go_at_call 131; refine (textsWrite_nil gk _ _ C8).mono ?_; rintro en wx ⟨rfl, rfl⟩)
    | (go_at_call 132; refine (byteListsWrite_nil gk _ _ C11).mono ?_; rintro en wx ⟨rfl, rfl⟩)
    | (go_at_call 133; refine (intListsWrite_nil gk _ _ C14).mono ?_; rintro en wx ⟨rfl, rfl⟩)
    | (go_at_call 134; refine (pairsWrite_nil gk _ _ C17).mono ?_; rintro en wx ⟨rfl, rfl⟩)
    | (go_at_call 136; refine (kidsWrite_nil gk _ _ C23).mono ?_; rintro en wx ⟨rfl, rfl⟩)
    | (go_at_call 137; refine (nodesWrite_nil gk _ _ C26).mono ?_; rintro en wx ⟨rfl, rfl⟩)
    | (go_at_call 138; refine (writesWrite_nil gk _ _ C29).mono ?_; rintro en wx ⟨rfl, rfl⟩)
    | (go_at_call 139; refine (changesWrite_nil gk _ _ C32).mono ?_; rintro en wx ⟨rfl, rfl⟩)
    | (go_at_call 140; refine (fatesWrite_nil gk _ _ C35).mono ?_; rintro en wx ⟨rfl, rfl⟩)
    | (go_at_call 141; refine (opsWrite_nil gk _ _ C38).mono ?_; rintro en wx ⟨rfl, rfl⟩)
    | (go_at_call 135; (with_reducible refine WI.mono ?_); intro en w2 q2; obtain ⟨cst', rfl, lt2, mt2, bk2, ou2⟩ := q2; have C23 := OC.cell bk2 23 (.slice none 0 0) rfl; have C26 := OC.cell bk2 26 (.slice none 0 0) rfl; have C29 := OC.cell bk2 29 (.slice none 0 0) rfl; have C32 := OC.cell bk2 32 (.slice none 0 0) rfl; have C35 := OC.cell bk2 35 (.slice none 0 0) rfl; have C38 := OC.cell bk2 38 (.slice none 0 0) rfl))
  have FIN : Hid (WroteT gk base m mt p r t b2 b3 b4 b5 w w2) := hideIt ⟨css', cst', POST.out.1.outDj ou2 (fun g q z => DJ.out g q (Or.inl z)), POST.out.2.1, POST.out.2.2.1, lt2, mt2, bk2, (POST.out.2.2.2.mono fun _ q => Or.inl q).trans ou2 fun _ q => Or.inl (Or.inr q)⟩
  clear lt2 mt2 bk2 ou2 WI
  go_end0
  exact ⟨_, rfl, FIN.out⟩
set_option maxRecDepth 100000 in
set_option maxHeartbeats 4000000 in
theorem Holds_T (gk m mt mg mtg cg ctg K K2 : Nat) (p : Int) (r t : Row) (Ag Atg : Option Addr) (b2 b4 : Value) (qs tqs : List Slot) (css zss cst zst : List (List Value)) (w : World) (hk : Bk w gk (bookT p (r.v m) b2 (.slice Ag mg cg) (t.v mt) b4 (.slice Atg mtg ctg)))
    (h : RS w 1 r.A m r.c r.ps css) (k1 : MarkedB p 0 m css) (s1 : ShortB css) (g : RS w 1 Ag mg cg qs zss) (hmg : mg = 0 ∨ mg = m) (k2 : MarkedB p 0 m zss) (s2 : ShortB zss)
    (ht : RS w 4 t.A mt t.c t.ps cst) (kt1 : MarkR (mkI p) m mt cst) (st1 : ∀ cs ∈ cst, cs.length ≤ K * 4) (gt : RS w 4 Atg mtg ctg tqs zst) (hmtg : mtg = 0 ∨ mtg = mt) (kt2 : MarkR (mkI p) m mt zst) (st2 : ∀ cs ∈ zst, cs.length ≤ K2 * 4) (hm : m ≤ 1000000) (hmt : mt ≤ 1000000) (p0 : 0 ≤ p) (p1 : p ≤ 1) (hK : K ≤ 1000000) (hK2 : K2 ≤ 2000000) :
    Calls Tryz.prog 69 #[.pointer (some ⟨gk, 0, none⟩)] w fun e w' => e = .returned (.bool true) ∧ Below w.heap.size w w' := by
  have HB : Calls Tryz.prog 142 #[.pointer (some ⟨gk, 0, none⟩), .int .i64 0] w (HoldB (0 + m) w) := bytesHold_calls gk m r.c mg cg 0 p r.A Ag r.ps qs css zss w (OC.cell hk 1 _ rfl) (OC.cell hk 2 _ rfl) (OC.cell hk 4 _ rfl) h k1 s1 g hmg k2 s2 hm (by decide)
  have HI : Calls Tryz.prog 148 #[.pointer (some ⟨gk, 0, none⟩), .int .i64 (m : Int)] w (HoldI (m + mt) w) := itemsHold_calls gk mt t.c mtg ctg m K K2 p t.A Atg t.ps tqs cst zst w (OC.cell hk 1 _ rfl) (OC.cell hk 20 _ rfl) (OC.cell hk 22 _ rfl) ht kt1 st1 gt hmtg kt2 st2 hmt hm p0 p1 hK hK2
  rw [Nat.zero_add] at HB
  have c0 := OC.cell hk 0 (.int .i64 0) rfl
  have C5 := OC.cell hk 5 (.slice none 0 0) rfl
  have C8 := OC.cell hk 8 (.slice none 0 0) rfl
  have C11 := OC.cell hk 11 (.slice none 0 0) rfl
  have C14 := OC.cell hk 14 (.slice none 0 0) rfl
  have C17 := OC.cell hk 17 (.slice none 0 0) rfl
  have C23 := OC.cell hk 23 (.slice none 0 0) rfl
  have C26 := OC.cell hk 26 (.slice none 0 0) rfl
  have C29 := OC.cell hk 29 (.slice none 0 0) rfl
  have C32 := OC.cell hk 32 (.slice none 0 0) rfl
  have C35 := OC.cell hk 35 (.slice none 0 0) rfl
  have C38 := OC.cell hk 38 (.slice none 0 0) rfl
  have HBK := hideIt hk
  clear hk h k1 s1 g hmg k2 s2 ht kt1 st1 gt hmtg kt2 st2
  go_enter Tryz.func69, Tryz.ntmps69
  go_wp2_with (first
    | (go_at_call 143; refine (intsHold_nil gk _ _ C5).mono ?_; rintro en wx ⟨rfl, rfl⟩)
    | (go_at_call 144; refine (textsHold_nil gk _ _ C8).mono ?_; rintro en wx ⟨rfl, rfl⟩)
    | (go_at_call 145; refine (byteListsHold_nil gk _ _ C11).mono ?_; rintro en wx ⟨rfl, rfl⟩)
    | (go_at_call 146; refine (intListsHold_nil gk _ _ C14).mono ?_; rintro en wx ⟨rfl, rfl⟩)
    | (go_at_call 147; refine (pairsHold_nil gk _ _ C17).mono ?_; rintro en wx ⟨rfl, rfl⟩)
    | (go_at_call 149; refine (kidsHold_nil gk _ _ C23).mono ?_; rintro en wx ⟨rfl, rfl⟩)
    | (go_at_call 150; refine (nodesHold_nil gk _ _ C26).mono ?_; rintro en wx ⟨rfl, rfl⟩)
    | (go_at_call 151; refine (writesHold_nil gk _ _ C29).mono ?_; rintro en wx ⟨rfl, rfl⟩)
    | (go_at_call 152; refine (changesHold_nil gk _ _ C32).mono ?_; rintro en wx ⟨rfl, rfl⟩)
    | (go_at_call 153; refine (fatesHold_nil gk _ _ C35).mono ?_; rintro en wx ⟨rfl, rfl⟩)
    | (go_at_call 154; refine (opsHold_nil gk _ _ C38).mono ?_; rintro en wx ⟨rfl, rfl⟩)
    | (go_at_call 148; (with_reducible refine HI.mono ?_); rintro en w2 ⟨rfl, x2⟩; have bk2 := HBK.out.below x2; have C23 := OC.cell bk2 23 (.slice none 0 0) rfl; have C26 := OC.cell bk2 26 (.slice none 0 0) rfl; have C29 := OC.cell bk2 29 (.slice none 0 0) rfl; have C32 := OC.cell bk2 32 (.slice none 0 0) rfl; have C35 := OC.cell bk2 35 (.slice none 0 0) rfl; have C38 := OC.cell bk2 38 (.slice none 0 0) rfl)
    | (go_at_call 142; (with_reducible refine HB.mono ?_); rintro en wx ⟨rfl, rfl⟩))
  go_ret
  exact ⟨rfl, x2⟩
end Go.Proofs.YtmeakhiiebeneaaGreatDoor
