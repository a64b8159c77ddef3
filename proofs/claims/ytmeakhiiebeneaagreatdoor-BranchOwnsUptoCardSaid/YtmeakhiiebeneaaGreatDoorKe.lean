/- coppicekept.Book where lists of bytes alone are kept: Untouched, write, Holds, grow, Finish. -/
import Derived.Test.YtmeakhiiebeneaaGreatDoorKd
import Derived.Test.YtmeakhiiebeneaaGreatDoorKn
namespace Go.Proofs.YtmeakhiiebeneaaGreatDoor
open Go.RowKit

/-- the cells of a book in which lists of bytes alone are kept. -/
def bookCs (p : Int) (b bw bg : Value) : List Value := .int .i64 0 :: .int .i64 p :: b :: bw :: bg :: List.replicate 36 (.slice none 0 0)
theorem below_same {B : Nat} {a w w' : World} (h : Below B a w) (e : w' = w) : Below B a w' := e ▸ h
theorem LS.booked {w : World} {base e sz rt n c gk : Nat} {A : Option Addr} {ps : List Slot} {css : List (List Value)} {cs : List Value} (h : LS w base e sz rt A n c ps css) (bk : Bk w gk cs) (n1 : 39 ≠ e) (n2 : 39 ≠ rt) (j : Nat) (u : Value) : LS (w.setCell ⟨gk, j, none⟩ u) base e sz rt A n c ps css := by
  have key : ∀ {b e' sz' n' c' : Nat} {A' : Option Addr} {xs : List Value}, GC w b e' sz' A' n' c' xs → 39 ≠ e' → GC (w.setCell ⟨gk, j, none⟩ u) b e' sz' A' n' c' xs := by
    intro b e' sz' n' c' A' xs g ne
    rcases g.oc with ⟨rfl, rfl, rfl, rfl⟩ | ⟨g0, rfl, hb, o⟩
    · exact GC.nil _ _ _ _
    · exact GC.of (o.same (Sm.setCell _ _ _ (by rintro rfl; exact ne (OC.tyy bk o)))) hb
  exact ⟨key h.row n2, h.len, fun j' p cs' h1 h2 => key (h.each j' p cs' h1 h2) n1, h.inc⟩
/-- lists of bytes, read. -/
theorem RS.rm {w : World} {n c : Nat} {A : Option Addr} {ps : List Slot} {xss : List (List UInt8)} (h : RS w 1 A n c ps (xss.map u8s)) : RM w A n c (ps.map sv) xss :=
  ⟨h.row, by have := h.len; have h2 := h.row.len; simp at this h2; omega, fun j xs hj => by
    have hc : (xss.map u8s)[j]? = some (u8s xs) := by rw [List.getElem?_map, hj]; rfl
    obtain ⟨p, hp⟩ : ∃ p, ps[j]? = some p := ⟨_, List.getElem?_eq_getElem (by rw [h.len]; exact (List.getElem?_eq_some_iff.1 hc).1)⟩
    exact ⟨p.1, p.2.1, p.2.2, by rw [List.getElem?_map, hp]; rfl, h.each j p _ hp hc⟩⟩

set_option maxRecDepth 100000 in
set_option maxHeartbeats 2000000 in
theorem Untouched_b (gk m cb cw : Nat) (p : Int) (Ab Aw : Option Addr) (bg : Value) (vs vs' : List Value) (xss : List (List UInt8)) (w : World) (hk : Bk w gk (bookCs p (.slice Ab m cb) (.slice Aw m cw) bg)) (h : RM w Ab m cb vs xss) (h' : RM w Aw m cw vs' xss) (hm : m ≤ 1000000) :
    Calls Tryz.prog 67 #[.pointer (some ⟨gk, 0, none⟩)] w fun e w' => e = .returned (.bool true) ∧ ∃ j, w' = w.drewN j := by
  have UB := bytesUntouched_calls gk m cb cw Ab Aw vs vs' xss w (OC.cell hk 2 _ rfl) (OC.cell hk 3 _ rfl) h h' hm
  go_enter Tryz.func67, Tryz.ntmps67
  go_upto_region 4 with (go_at_call 116; refine UB.mono ?_; rintro en w1 ⟨rfl, j1, h1⟩; have H1 := hideIt h1; clear h1)
  have bk1 : Bk w1 gk (bookCs p (.slice Ab m cb) (.slice Aw m cw) bg) := hk.below (below_same (below_drewN (Below.refl _ _) j1) H1.out)
  have C5 := OC.cell bk1 5 (.slice none 0 0) rfl
  have C8 := OC.cell bk1 8 (.slice none 0 0) rfl
  have C11 := OC.cell bk1 11 (.slice none 0 0) rfl
  have C14 := OC.cell bk1 14 (.slice none 0 0) rfl
  have C17 := OC.cell bk1 17 (.slice none 0 0) rfl
  have C20 := OC.cell bk1 20 (.slice none 0 0) rfl
  have C23 := OC.cell bk1 23 (.slice none 0 0) rfl
  have C26 := OC.cell bk1 26 (.slice none 0 0) rfl
  have C29 := OC.cell bk1 29 (.slice none 0 0) rfl
  have C32 := OC.cell bk1 32 (.slice none 0 0) rfl
  have C35 := OC.cell bk1 35 (.slice none 0 0) rfl
  have C38 := OC.cell bk1 38 (.slice none 0 0) rfl
  clear UB bk1 hk h h'
  go_wp2_with (first
    | (go_at_call 117; refine (intsUntouched_nil gk _ C5).mono ?_; rintro en wx ⟨rfl, rfl⟩)
    | (go_at_call 118; refine (textsUntouched_nil gk _ C8).mono ?_; rintro en wx ⟨rfl, rfl⟩)
    | (go_at_call 119; refine (byteListsUntouched_nil gk _ C11).mono ?_; rintro en wx ⟨rfl, rfl⟩)
    | (go_at_call 120; refine (intListsUntouched_nil gk _ C14).mono ?_; rintro en wx ⟨rfl, rfl⟩)
    | (go_at_call 121; refine (pairsUntouched_nil gk _ C17).mono ?_; rintro en wx ⟨rfl, rfl⟩)
    | (go_at_call 122; refine (itemsUntouched_nil gk _ C20).mono ?_; rintro en wx ⟨rfl, rfl⟩)
    | (go_at_call 123; refine (kidsUntouched_nil gk _ C23).mono ?_; rintro en wx ⟨rfl, rfl⟩)
    | (go_at_call 124; refine (nodesUntouched_nil gk _ C26).mono ?_; rintro en wx ⟨rfl, rfl⟩)
    | (go_at_call 125; refine (writesUntouched_nil gk _ C29).mono ?_; rintro en wx ⟨rfl, rfl⟩)
    | (go_at_call 126; refine (changesUntouched_nil gk _ C32).mono ?_; rintro en wx ⟨rfl, rfl⟩)
    | (go_at_call 127; refine (fatesUntouched_nil gk _ C35).mono ?_; rintro en wx ⟨rfl, rfl⟩)
    | (go_at_call 128; refine (opsUntouched_nil gk _ C38).mono ?_; rintro en wx ⟨rfl, rfl⟩))
  go_ret
  exact ⟨rfl, j1, H1.out⟩

def WriteAll (base m cb gk : Nat) (p : Int) (Ab : Option Addr) (ps : List Slot) (bs : List Value) (w : World) (w' : World) : Prop :=
  ∃ css', LS w' base 5 1 40 Ab m cb ps css' ∧ ShortB css' ∧ MarkedB p 0 m css' ∧ Bk w' gk bs ∧ Out (InPs ps) w w'
set_option maxRecDepth 100000 in
set_option maxHeartbeats 2000000 in
theorem write_b (gk base m cb : Nat) (p : Int) (Ab : Option Addr) (V3 V4 : Value) (ps : List Slot) (css : List (List Value)) (w : World) (hk : Bk w gk (bookCs p (.slice Ab m cb) V3 V4)) (h : LS w base 5 1 40 Ab m cb ps css) (hs : ShortB css) (hm : m ≤ 1000000) :
    Calls Tryz.prog 68 #[.pointer (some ⟨gk, 0, none⟩)] w fun e w' => ∃ v, e = .returned v ∧ WriteAll base m cb gk p Ab ps (bookCs p (.slice Ab m cb) V3 V4) w w' := by
  have WB : Calls Tryz.prog 129 #[.pointer (some ⟨gk, 0, none⟩), .int .i64 0] w (WriteB base m cb 0 gk p Ab ps (bookCs p (.slice Ab m cb) V3 V4) w) := bytesWrite_calls gk base m cb 0 p Ab ps _ css w hk rfl rfl h hs hm (by decide)
  have c0 := OC.cell hk 0 (.int .i64 0) rfl
  go_enter Tryz.func68, Tryz.ntmps68
  go_upto_region 2 with (go_at_call 129; refine WB.mono ?_; intro en w1 q1; obtain ⟨css', rfl, ls1, sh1, mk1, bk1, ou1⟩ := q1)
  have C5 := OC.cell bk1 5 (.slice none 0 0) rfl
  have C8 := OC.cell bk1 8 (.slice none 0 0) rfl
  have C11 := OC.cell bk1 11 (.slice none 0 0) rfl
  have C14 := OC.cell bk1 14 (.slice none 0 0) rfl
  have C17 := OC.cell bk1 17 (.slice none 0 0) rfl
  have C20 := OC.cell bk1 20 (.slice none 0 0) rfl
  have C23 := OC.cell bk1 23 (.slice none 0 0) rfl
  have C26 := OC.cell bk1 26 (.slice none 0 0) rfl
  have C29 := OC.cell bk1 29 (.slice none 0 0) rfl
  have C32 := OC.cell bk1 32 (.slice none 0 0) rfl
  have C35 := OC.cell bk1 35 (.slice none 0 0) rfl
  have C38 := OC.cell bk1 38 (.slice none 0 0) rfl
  have POST : Hid (WriteAll base m cb gk p Ab ps (bookCs p (.slice Ab m cb) V3 V4) w w1) := hideIt ⟨css', ls1, sh1, mk1, bk1, ou1⟩
  clear WB ls1 sh1 mk1 bk1 ou1 c0 hk h hs
  go_wp2_with (first
    | (go_at_call 130; refine (intsWrite_nil gk _ _ C5).mono ?_; rintro en wx ⟨rfl, rfl⟩)
    | (go_at_call 131; refine (textsWrite_nil gk _ _ C8).mono ?_; rintro en wx ⟨rfl, rfl⟩)
    | (go_at_call 132; refine (byteListsWrite_nil gk _ _ C11).mono ?_; rintro en wx ⟨rfl, rfl⟩)
    | (go_at_call 133; refine (intListsWrite_nil gk _ _ C14).mono ?_; rintro en wx ⟨rfl, rfl⟩)
    | (go_at_call 134; refine (pairsWrite_nil gk _ _ C17).mono ?_; rintro en wx ⟨rfl, rfl⟩)
    | (go_at_call 135; refine (itemsWrite_nil gk _ _ C20).mono ?_; rintro en wx ⟨rfl, rfl⟩)
    | (go_at_call 136; refine (kidsWrite_nil gk _ _ C23).mono ?_; rintro en wx ⟨rfl, rfl⟩)
    | (go_at_call 137; refine (nodesWrite_nil gk _ _ C26).mono ?_; rintro en wx ⟨rfl, rfl⟩)
    | (go_at_call 138; refine (writesWrite_nil gk _ _ C29).mono ?_; rintro en wx ⟨rfl, rfl⟩)
    | (go_at_call 139; refine (changesWrite_nil gk _ _ C32).mono ?_; rintro en wx ⟨rfl, rfl⟩)
    | (go_at_call 140; refine (fatesWrite_nil gk _ _ C35).mono ?_; rintro en wx ⟨rfl, rfl⟩)
    | (go_at_call 141; refine (opsWrite_nil gk _ _ C38).mono ?_; rintro en wx ⟨rfl, rfl⟩))
  go_end0
  exact ⟨_, rfl, POST.out⟩

set_option maxRecDepth 100000 in
set_option maxHeartbeats 2000000 in
theorem Holds_b (gk m cb mg cg : Nat) (p : Int) (Ab Ag : Option Addr) (V3 : Value) (ps qs : List Slot) (css zss : List (List Value)) (w : World) (hk : Bk w gk (bookCs p (.slice Ab m cb) V3 (.slice Ag mg cg)))
    (h : RS w 1 Ab m cb ps css) (k1 : MarkedB p 0 m css) (s1 : ShortB css) (g : RS w 1 Ag mg cg qs zss) (hmg : mg = 0 ∨ mg = m) (k2 : MarkedB p 0 m zss) (s2 : ShortB zss) (hm : m ≤ 1000000) :
    Calls Tryz.prog 69 #[.pointer (some ⟨gk, 0, none⟩)] w fun e w' => e = .returned (.bool true) ∧ w = w' := by
  have HB : Calls Tryz.prog 142 #[.pointer (some ⟨gk, 0, none⟩), .int .i64 0] w (HoldB (0 + m) w) := bytesHold_calls gk m cb mg cg 0 p Ab Ag ps qs css zss w (OC.cell hk 1 _ rfl) (OC.cell hk 2 _ rfl) (OC.cell hk 4 _ rfl) h k1 s1 g hmg k2 s2 hm (by decide)
  have c0 := OC.cell hk 0 (.int .i64 0) rfl
  have C5 := OC.cell hk 5 (.slice none 0 0) rfl
  have C8 := OC.cell hk 8 (.slice none 0 0) rfl
  have C11 := OC.cell hk 11 (.slice none 0 0) rfl
  have C14 := OC.cell hk 14 (.slice none 0 0) rfl
  have C17 := OC.cell hk 17 (.slice none 0 0) rfl
  have C20 := OC.cell hk 20 (.slice none 0 0) rfl
  have C23 := OC.cell hk 23 (.slice none 0 0) rfl
  have C26 := OC.cell hk 26 (.slice none 0 0) rfl
  have C29 := OC.cell hk 29 (.slice none 0 0) rfl
  have C32 := OC.cell hk 32 (.slice none 0 0) rfl
  have C35 := OC.cell hk 35 (.slice none 0 0) rfl
  have C38 := OC.cell hk 38 (.slice none 0 0) rfl
  clear hk h k1 s1 g hmg k2 s2
  go_enter Tryz.func69, Tryz.ntmps69
  go_wp2_with (first
    | (go_at_call 143; refine (intsHold_nil gk _ _ C5).mono ?_; rintro en wx ⟨rfl, rfl⟩)
    | (go_at_call 144; refine (textsHold_nil gk _ _ C8).mono ?_; rintro en wx ⟨rfl, rfl⟩)
    | (go_at_call 145; refine (byteListsHold_nil gk _ _ C11).mono ?_; rintro en wx ⟨rfl, rfl⟩)
    | (go_at_call 146; refine (intListsHold_nil gk _ _ C14).mono ?_; rintro en wx ⟨rfl, rfl⟩)
    | (go_at_call 147; refine (pairsHold_nil gk _ _ C17).mono ?_; rintro en wx ⟨rfl, rfl⟩)
    | (go_at_call 148; refine (itemsHold_nil gk _ _ C20).mono ?_; rintro en wx ⟨rfl, rfl⟩)
    | (go_at_call 149; refine (kidsHold_nil gk _ _ C23).mono ?_; rintro en wx ⟨rfl, rfl⟩)
    | (go_at_call 150; refine (nodesHold_nil gk _ _ C26).mono ?_; rintro en wx ⟨rfl, rfl⟩)
    | (go_at_call 151; refine (writesHold_nil gk _ _ C29).mono ?_; rintro en wx ⟨rfl, rfl⟩)
    | (go_at_call 152; refine (changesHold_nil gk _ _ C32).mono ?_; rintro en wx ⟨rfl, rfl⟩)
    | (go_at_call 153; refine (fatesHold_nil gk _ _ C35).mono ?_; rintro en wx ⟨rfl, rfl⟩)
    | (go_at_call 154; refine (opsHold_nil gk _ _ C38).mono ?_; rintro en wx ⟨rfl, rfl⟩)
    | (go_at_call 142; refine HB.mono ?_; rintro en wx ⟨rfl, rfl⟩))
  go_ret
  exact ⟨rfl, rfl⟩

set_option maxHeartbeats 1000000 in
theorem bytesGrow_zero (gk cb : Nat) (z t : Int) (Ab : Option Addr) (w : World) (c2 : w.cell? ⟨gk, 2, none⟩ = some (.slice Ab 0 cb)) :
    Calls Tryz.prog 155 #[.pointer (some ⟨gk, 0, none⟩), .int .i64 z, .int .i64 t] w fun e w' => e = .returned (.int .i64 z) ∧ w = w' := by
  go_enter Tryz.func155, Tryz.ntmps155
  go_wp2
  go_loop [1, 7] (fun d i => d = .int .i64 z ∧ i = .int .i64 0) (fun _ _ => 0)
  case atStart => exact ⟨rfl, rfl⟩
  case round =>
    obtain ⟨rfl, rfl⟩ := hrel
    go_wp2
    go_ret
    exact ⟨rfl, rfl⟩

/-- behind t turns (t is not 0). -/
def Grown (gk base B2 m cb K : Nat) (p : Int) (Ab : Option Addr) (V3 : Value) (ps : List Slot) (css : List (List Value)) (t : Nat) (w : World) : Prop :=
  ∃ (qs : List Slot) (zss : List (List Value)) (Ag : Option Addr) (cg : Nat), Bk w gk (bookCs p (.slice Ab m cb) V3 (.slice Ag m cg)) ∧ GC w base 40 1 Ab m cb (ps.map sv) ∧ GC w B2 40 1 Ag m cg ((qs.take m).map sv) ∧ GR w base 5 1 B2 ps qs css zss ∧ MarkedB p 0 m zss ∧ (∀ zs ∈ zss, zs.length ≤ K + t)
set_option maxRecDepth 100000 in
set_option maxHeartbeats 4000000 in
theorem grow_b (gk base m cb K : Nat) (p : Int) (Ab : Option Addr) (V3 : Value) (ps : List Slot) (css : List (List Value)) (w : World) (hk : Bk w gk (bookCs p (.slice Ab m cb) V3 (.slice none 0 0))) (h : LS w base 5 1 40 Ab m cb ps css) (hm : MarkedB p 0 m css) (hK : ∀ cs ∈ css, cs.length ≤ K) (K1 : K ≤ 1000000) (m0 : 0 < m) (m1 : m ≤ 900000) (hb : base ≤ w.heap.size) :
    Calls Tryz.prog 70 #[.pointer (some ⟨gk, 0, none⟩)] w fun e w' => ∃ v, e = .returned v ∧ Grown gk base w.heap.size m cb K p Ab V3 ps css 70 w' ∧ Out (fun g => g = gk ∨ GrowD ps w.heap.size g) w w' := by
  have hab : ∀ a, Ab = some a → a.block < w.heap.size := fun a e => (h.row.lt a e).1
  have gr0 := GR.start w.heap.size h
  have ra0 := h.row
  have HAB := hideIt hab
  have HM := hideIt hm
  have HK := hideIt hK
  have HB := hideIt hb
  clear hab hm hK hb h
  go_enter Tryz.func70, Tryz.ntmps70
  go_wp2
  go_loopw [2] (fun tt wr => ∃ t : Nat, t ≤ 70 ∧ tt = .int .i64 (t : Int) ∧ Hid ((t = 0 ∧ Bk wr gk (bookCs p (.slice Ab m cb) V3 (.slice none 0 0)) ∧ GC wr base 40 1 Ab m cb (ps.map sv) ∧ GR wr base 5 1 w.heap.size ps ps css css) ∨ (0 < t ∧ Grown gk base w.heap.size m cb K p Ab V3 ps css t wr)) ∧ Out (fun g => g = gk ∨ GrowD ps w.heap.size g) w wr)
    (fun tt _ => 70 - (intOf tt).toNat)
  case atStart => exact ⟨0, by omega, rfl, hideIt (Or.inl ⟨rfl, hk, ra0, gr0⟩), Out.refl _ _⟩
  case round =>
    clear hk ra0 gr0
    obtain ⟨t, ht, rfl, HS, ou⟩ := hrel
    by_cases hlt : t < 70
    · have t1 : (t : Int) < 70 := by omega
      have zb := ou.size
      have zb1 := Nat.le_trans HB.out zb
      rcases HS.out with ⟨rfl, bk, ra, gr⟩ | ⟨hpos, qs, zss, Ag, cg, bk, ra, rg, gr, mk, len⟩
      · have GF : Calls Tryz.prog 155 #[.pointer (some ⟨gk, 0, none⟩), .int .i64 0, .int .i64 0] wr (GrowOut0 gk base w.heap.size m cb 0 K p Ab ps (bookCs p (.slice Ab m cb) V3 (.slice none 0 0)) css wr) := bytesGrow_first gk base w.heap.size m cb 0 K p Ab ps _ css wr bk rfl rfl rfl ra HAB.out gr HM.out HK.out (by omega) m1 (by decide) zb1 zb
        have c0 := OC.cell bk 0 (.int .i64 0) rfl
        clear ra gr HS hlt
        go_upto_region 5 with (go_at_call 155; refine GF.mono ?_; intro en w1 q1; obtain ⟨qs, zss, Ag, cg, rfl, bk1, ra1, rg1, gr1, M1, L1, ou1⟩ := q1)
        have bk2 : Bk w1 gk (bookCs p (.slice Ab m cb) V3 (.slice Ag m cg)) := bk1
        have C5 := OC.cell bk2 5 (.slice none 0 0) rfl
        have C8 := OC.cell bk2 8 (.slice none 0 0) rfl
        have C11 := OC.cell bk2 11 (.slice none 0 0) rfl
        have C14 := OC.cell bk2 14 (.slice none 0 0) rfl
        have C17 := OC.cell bk2 17 (.slice none 0 0) rfl
        have C20 := OC.cell bk2 20 (.slice none 0 0) rfl
        have C23 := OC.cell bk2 23 (.slice none 0 0) rfl
        have C26 := OC.cell bk2 26 (.slice none 0 0) rfl
        have C29 := OC.cell bk2 29 (.slice none 0 0) rfl
        have C32 := OC.cell bk2 32 (.slice none 0 0) rfl
        have C35 := OC.cell bk2 35 (.slice none 0 0) rfl
        have C38 := OC.cell bk2 38 (.slice none 0 0) rfl
        have G1 : Hid ((1 = 0 ∧ Bk w1 gk (bookCs p (.slice Ab m cb) V3 (.slice none 0 0)) ∧ GC w1 base 40 1 Ab m cb (ps.map sv) ∧ GR w1 base 5 1 w.heap.size ps ps css css) ∨ (0 < 1 ∧ Grown gk base w.heap.size m cb K p Ab V3 ps css 1 w1)) := hideIt (Or.inr ⟨by decide, qs, zss, Ag, cg, bk2, ra1, rg1, gr1, M1.out, L1.out⟩)
        have ou2 := ou.trans ou1 (fun g q => by
          rcases q with q | q
          · exact Or.inl (Or.inl q)
          · exact Or.inl (Or.inr q))
        clear GF bk bk1 bk2 ra1 rg1 gr1 M1 L1 ou1 c0 ou
        go_wp2_with (first
          | (go_at_call 156; refine (intsGrow_nil gk _ _ _ C5).mono ?_; rintro en wx ⟨rfl, rfl⟩)
          | (go_at_call 157; refine (textsGrow_nil gk _ _ _ C8).mono ?_; rintro en wx ⟨rfl, rfl⟩)
          | (go_at_call 158; refine (byteListsGrow_nil gk _ _ _ C11).mono ?_; rintro en wx ⟨rfl, rfl⟩)
          | (go_at_call 159; refine (intListsGrow_nil gk _ _ _ C14).mono ?_; rintro en wx ⟨rfl, rfl⟩)
          | (go_at_call 160; refine (pairsGrow_nil gk _ _ _ C17).mono ?_; rintro en wx ⟨rfl, rfl⟩)
          | (go_at_call 161; refine (itemsGrow_nil gk _ _ _ C20).mono ?_; rintro en wx ⟨rfl, rfl⟩)
          | (go_at_call 162; refine (kidsGrow_nil gk _ _ _ C23).mono ?_; rintro en wx ⟨rfl, rfl⟩)
          | (go_at_call 163; refine (nodesGrow_nil gk _ _ _ C26).mono ?_; rintro en wx ⟨rfl, rfl⟩)
          | (go_at_call 164; refine (writesGrow_nil gk _ _ _ C29).mono ?_; rintro en wx ⟨rfl, rfl⟩)
          | (go_at_call 165; refine (changesGrow_nil gk _ _ _ C32).mono ?_; rintro en wx ⟨rfl, rfl⟩)
          | (go_at_call 166; refine (fatesGrow_nil gk _ _ _ C35).mono ?_; rintro en wx ⟨rfl, rfl⟩)
          | (go_at_call 167; refine (opsGrow_nil gk _ _ _ C38).mono ?_; rintro en wx ⟨rfl, rfl⟩))
        go_roundw
        case rel => exact ⟨1, by omega, rfl, G1, ou2⟩
        case measure => simp [intOf]
      · rcases rg.oc with ⟨_, z, _⟩ | ⟨gg, rfl, hgg, og⟩
        · omega
        have HPOS : (((t : Int)) == 0) = false := beq_eq_false_iff_ne.2 (by omega)
        have GM : Calls Tryz.prog 155 #[.pointer (some ⟨gk, 0, none⟩), .int .i64 0, .int .i64 (t : Int)] wr (GrowOut gk base w.heap.size gg m cb cg 0 (K + t) p Ab ps (bookCs p (.slice Ab m cb) V3 (.slice (some ⟨gg, 0, none⟩) m cg)) css wr) := bytesGrow_more gk base w.heap.size gg m cb cg 0 (K + t) p (t : Int) Ab ps _ qs css zss wr HPOS bk rfl rfl rfl ra HAB.out og hgg gr mk len (by omega) (by omega) (by decide) zb1 zb
        have c0 := OC.cell bk 0 (.int .i64 0) rfl
        have HGG := hideIt hgg
        clear ra gr HS hlt rg og mk len hgg HPOS
        go_upto_region 5 with (go_at_call 155; refine GM.mono ?_; intro en w1 q1; obtain ⟨qs', zss', rfl, bk1, ra1, rg1, gr1, M1, L1, ou1⟩ := q1)
        have C5 := OC.cell bk1 5 (.slice none 0 0) rfl
        have C8 := OC.cell bk1 8 (.slice none 0 0) rfl
        have C11 := OC.cell bk1 11 (.slice none 0 0) rfl
        have C14 := OC.cell bk1 14 (.slice none 0 0) rfl
        have C17 := OC.cell bk1 17 (.slice none 0 0) rfl
        have C20 := OC.cell bk1 20 (.slice none 0 0) rfl
        have C23 := OC.cell bk1 23 (.slice none 0 0) rfl
        have C26 := OC.cell bk1 26 (.slice none 0 0) rfl
        have C29 := OC.cell bk1 29 (.slice none 0 0) rfl
        have C32 := OC.cell bk1 32 (.slice none 0 0) rfl
        have C35 := OC.cell bk1 35 (.slice none 0 0) rfl
        have C38 := OC.cell bk1 38 (.slice none 0 0) rfl
        have G1 : Hid ((t + 1 = 0 ∧ Bk w1 gk (bookCs p (.slice Ab m cb) V3 (.slice none 0 0)) ∧ GC w1 base 40 1 Ab m cb (ps.map sv) ∧ GR w1 base 5 1 w.heap.size ps ps css css) ∨ (0 < t + 1 ∧ Grown gk base w.heap.size m cb K p Ab V3 ps css (t + 1) w1)) := hideIt (Or.inr ⟨Nat.succ_pos t, qs', zss', _, cg, bk1, ra1, GC.of rg1 HGG.out, gr1, M1.out, L1.out⟩)
        have ou2 := ou.trans ou1 (fun g q => Or.inl (Or.inr q))
        clear GM bk bk1 ra1 rg1 gr1 M1 L1 ou1 c0 ou
        go_wp2_with (first
          | (go_at_call 156; refine (intsGrow_nil gk _ _ _ C5).mono ?_; rintro en wx ⟨rfl, rfl⟩)
          | (go_at_call 157; refine (textsGrow_nil gk _ _ _ C8).mono ?_; rintro en wx ⟨rfl, rfl⟩)
          | (go_at_call 158; refine (byteListsGrow_nil gk _ _ _ C11).mono ?_; rintro en wx ⟨rfl, rfl⟩)
          | (go_at_call 159; refine (intListsGrow_nil gk _ _ _ C14).mono ?_; rintro en wx ⟨rfl, rfl⟩)
          | (go_at_call 160; refine (pairsGrow_nil gk _ _ _ C17).mono ?_; rintro en wx ⟨rfl, rfl⟩)
          | (go_at_call 161; refine (itemsGrow_nil gk _ _ _ C20).mono ?_; rintro en wx ⟨rfl, rfl⟩)
          | (go_at_call 162; refine (kidsGrow_nil gk _ _ _ C23).mono ?_; rintro en wx ⟨rfl, rfl⟩)
          | (go_at_call 163; refine (nodesGrow_nil gk _ _ _ C26).mono ?_; rintro en wx ⟨rfl, rfl⟩)
          | (go_at_call 164; refine (writesGrow_nil gk _ _ _ C29).mono ?_; rintro en wx ⟨rfl, rfl⟩)
          | (go_at_call 165; refine (changesGrow_nil gk _ _ _ C32).mono ?_; rintro en wx ⟨rfl, rfl⟩)
          | (go_at_call 166; refine (fatesGrow_nil gk _ _ _ C35).mono ?_; rintro en wx ⟨rfl, rfl⟩)
          | (go_at_call 167; refine (opsGrow_nil gk _ _ _ C38).mono ?_; rintro en wx ⟨rfl, rfl⟩))
        go_roundw
        case rel => exact ⟨t + 1, by omega, by go_num, G1, ou2⟩
        case measure => simp [intOf]; omega
    · obtain rfl : t = 70 := by omega
      have G1 : Hid (Grown gk base w.heap.size m cb K p Ab V3 ps css 70 wr) := hideIt (by
        rcases HS.out with ⟨z, _⟩ | ⟨_, q⟩
        · omega
        · exact q)
      clear HS
      go_wp2
      go_end0
      exact ⟨_, rfl, G1.out, ou⟩
end Go.Proofs.YtmeakhiiebeneaaGreatDoor
