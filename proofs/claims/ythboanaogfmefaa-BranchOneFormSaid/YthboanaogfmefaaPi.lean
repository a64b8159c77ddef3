/- bytes.Equal, branch.Decode. -/
import Derived.Test.YthboanaogfmefaaPf
import Derived.Test.YthboanaogfmefaaPh
import Derived.Test.YthboanaogfmefaaRefA
namespace Go.Proofs.Ythboanaogfmefaa
open Go.RowKit

set_option maxHeartbeats 400000 in
theorem Equal_calls (A A' : Option Addr) (n c n' c' : Nat) (xs ys : List UInt8) (w : World) (h : RB w A n c xs) (h' : RB w A' n' c' ys) (r : Bool) (hr : r = decide (xs = ys)) :
    Calls Try.prog 49 #[.slice A n c, .slice A' n' c'] w fun e w' => e = .returned (.bool r) ∧ w = w' := by
  have k1 := conv_str (P := Try.prog) (src := 28) (dst := 9) w Try.underlying28 Try.underlying5 Try.underlying9 h
  have k2 := conv_str (P := Try.prog) (src := 28) (dst := 9) w Try.underlying28 Try.underlying5 Try.underlying9 h'
  subst hr
  go_enter Try.func49, Try.ntmps49
  go_wp2
  go_ret
  refine ⟨?_, rfl⟩
  show Ending.returned (.bool (xs == ys)) = _
  congr 2
  rw [Bool.eq_iff_iff]; simp

/-- One slice of a row written anew. -/
theorem OM.set {w : World} {base n c g lo n' c' : Nat} {A' : Option Addr} {ps : List (Option Addr × Nat × Nat)} {xss : List (List UInt8)} {xs : List UInt8} (h : OM w base (some ⟨g, 0, none⟩) n c ps xss) (i : Nat) (hx : xss[i]? = some xs) (hp : GB w lo A' n' c' xs)
    (hlo : ∀ p ∈ ps, ∀ a, p.1 = some a → a.block < lo) (hb : base ≤ lo) : OM (w.setCell ⟨g, i, none⟩ (.slice A' n' c')) base (some ⟨g, 0, none⟩) n c (ps.set i (A', n', c')) xss := by
  have gx : w.grownBy (w.setCell ⟨g, i, none⟩ (.slice A' n' c')) ((some (⟨g, 0, none⟩ : Addr)).map (·.block)) := grownBy_set w g i _
  refine ⟨?_, by rw [List.length_set]; exact h.len, ?_, ?_⟩
  · rcases GC.oc h.row with ⟨q, _⟩ | ⟨g2, q, hb2, o2⟩
    · cases q
    · cases q
      have := o2.set i (.slice A' n' c')
      rw [show Value.slice A' n' c' = sv (A', n', c') from rfl, ← List.map_set] at this
      exact GC.of this hb2
  · intro j p ys h1 h2
    rw [List.getElem?_set] at h1
    split at h1
    · rename_i hij
      subst hij
      split at h1
      · cases h1
        rw [hx] at h2
        cases h2
        exact GC.apart (GC.lower hp hb) h.row gx (by decide)
      · cases h1
    · exact GC.apart (h.each j p ys h1 h2) h.row gx (by decide)
  · rw [List.pairwise_iff_getElem]
    have hq := List.pairwise_iff_getElem.1 h.inc
    intro a b ha hbb hab u v hu hv
    rw [List.getElem_set] at hu hv
    rw [List.length_set] at ha hbb
    split at hu
    · split at hv
      · omega
      · have h1 := (hp.lt u hu).2
        have h2 := hlo _ (List.getElem_mem hbb) v hv
        omega
    · split at hv
      · have h1 := (hp.lt v hv).2
        have h2 := hlo _ (List.getElem_mem ha) u hu
        omega
      · exact hq a b ha hbb hab u v hu hv

def levD (b : List UInt8) : Int := ((levS b).1 : Nat)
def kidsD (b : List UInt8) : List (Int × Int) := ki (fstS b).1 :: (restS b).2
def okDec (b : List UInt8) : Bool := decide (b.length = 4092 ∧ (encB (levD b) (restS b).1 (kidsD b)).2 = 0 ∧ (encB (levD b) (restS b).1 (kidsD b)).1 = b)
def DecodeOut (w : World) (b : List UInt8) (en : Ending) (w' : World) : Prop :=
  ∃ (A1 : Option Addr) (n1 c1 : Nat) (ps : List (Option Addr × Nat × Nat)) (A2 : Option Addr) (n2 c2 : Nat),
    en = .returned (.tuple #[.int .i64 (if okDec b then levD b else 0), .slice A1 n1 c1, .slice A2 n2 c2, .int .i64 (if okDec b then 0 else 50)]) ∧ OM w' w.heap.size A1 n1 c1 ps (if okDec b then (restS b).1 else []) ∧ GK w' w.heap.size A2 n2 c2 (if okDec b then kidsD b else []) ∧ Below w.heap.size w w'
theorem DecodeOut.no {w w' : World} {b : List UInt8} {en : Ending} (h : okDec b = false) (he : en = .returned (.tuple #[.int .i64 0, .slice none 0 0, .slice none 0 0, .int .i64 50])) (hb : Below w.heap.size w w') : DecodeOut w b en w' := by
  unfold DecodeOut
  rw [h]
  exact ⟨none, 0, 0, [], none, 0, 0, he, OM.nil _ _, GC.nil _ _ _ _, hb⟩

theorem results_four {fn : Func} {t u v x : Tmp} (h : fn.results = #[.tmp t, .tmp u, .tmp v, .tmp x]) (tmps : Array Value) (P : Program) (w : World) : (results fn tmps).run P w = .ok (.tuple #[tmps.getD t undef, tmps.getD u undef, tmps.getD v undef, tmps.getD x undef]) w := by
  simp [results, h]
set_option maxRecDepth 100000 in
set_option maxHeartbeats 2000000 in
theorem Decode_calls (A : Option Addr) (n c : Nat) (b : List UInt8) (w : World) (h : RB w A n c b) :
    Calls Try.prog 29 #[.slice A n c] w (DecodeOut w b) := by
  have hl := h.len
  by_cases hn : n = 4092
  · subst hn
    have RD := fun W q => read_calls A 4092 c b W q (by omega)
    have hf := read_few b
    obtain ⟨sp, hsp⟩ : ∃ sp, (restS b).1 = sp := ⟨_, rfl⟩
    obtain ⟨kd, hkd⟩ : ∃ kd, kidsD b = kd := ⟨_, rfl⟩
    have hkd' : ki (fstS b).1 :: (restS b).2 = kd := hkd
    obtain ⟨lv, hlv⟩ : ∃ lv, levD b = lv := ⟨_, rfl⟩
    have hlv' : (((levS b).1 : Nat) : Int) = lv := hlv
    rw [hsp] at hf
    rw [hsp, hkd', hlv'] at RD
    obtain ⟨bd, cd, hen⟩ : ∃ bd cd, encB lv sp kd = (bd, cd) := ⟨_, _, rfl⟩
    have hok : okDec b = decide (cd = 0 ∧ bd = b) := by
      unfold okDec
      rw [hsp, hkd, hlv, hen, hl]; simp
    have HYES : Hid (okDec b = true → ∀ (w' : World) (A1 : Option Addr) (n1 c1 : Nat) (ps : List (Option Addr × Nat × Nat)) (A2 : Option Addr) (n2 c2 : Nat), OM w' w.heap.size A1 n1 c1 ps sp → GK w' w.heap.size A2 n2 c2 kd → Below w.heap.size w w' → DecodeOut w b (.returned (.tuple #[.int .i64 lv, .slice A1 n1 c1, .slice A2 n2 c2, .int .i64 0])) w') := hideIt (by
      intro q w' A1 n1 c1 ps A2 n2 c2 h1 h2 h3
      unfold DecodeOut
      rw [q, hsp, hkd, hlv]
      exact ⟨A1, n1, c1, ps, A2, n2, c2, rfl, h1, h2, h3⟩)
    have ENC := fun (a1 : Option Addr) (m1 d1 : Nat) (vs : List Value) (a2 : Option Addr) (m2 d2 : Nat) (W : World) (q1 : RM W a1 m1 d1 vs sp) (q2 : RK W a2 m2 d2 kd) => Encode_calls lv a1 m1 d1 vs sp a2 m2 d2 kd W q1 (by have := q1.len; rw [← this]; exact hf) q2
    rw [hen] at ENC
    have HF := hideIt hf
    clear hsp hkd hkd' hlv hlv' hen hf hl
    go_enter Try.func29, Try.ntmps29
    go_upto_region 4 with (go_at_call 48; refine (RD _ h).mono ?_; rintro en w1 ⟨A1, n1, c1, ps, A2, n2, c2, rfl, om, gk, b1⟩)
    have h1 := h.below b1
    clear RD
    go_upto_region 5 with (go_at_call 21; refine (ENC _ _ _ _ _ _ _ _ om.read (GK.read gk)).mono ?_; rintro en w2 ⟨A3, n3, rfl, eb, b2⟩)
    have om2 := om.below b2
    have gk2 : GK w2 w.heap.size A2 n2 c2 kd := GC.below gk b2
    have h2 := h1.below b2
    have b3 := blw_step b1 b2
    clear ENC om gk h1 b1 b2
    by_cases hcd : cd = 0
    · subst hcd
      obtain ⟨t, ht⟩ : ∃ t, decide (bd = b) = t := ⟨_, rfl⟩
      have EQ := Equal_calls _ _ _ _ _ _ _ _ w2 (GB.read eb) h2 t ht.symm
      have hok2 : okDec b = t := by rw [hok, ← ht]; simp
      have HT := hideIt hok2
      clear hok ht hok2 eb h2
      cases t
      · go_wp2_with (go_at_call 49; refine EQ.mono ?_; rintro en wx ⟨rfl, rfl⟩)
        (try simp only [Exit.inBlock, Exit.then]); refine bodyPost_ret (results_four rfl _ _ _) rfl ?_
        exact DecodeOut.no HT.out rfl b3
      · have HY := hideIt (HYES.out HT.out)
        go_wp2_with (go_at_call 49; refine EQ.mono ?_; rintro en wx ⟨rfl, rfl⟩)
        go_loopw [39] (fun ii wr => ∃ (i : Nat) (ps : List (Option Addr × Nat × Nat)), i ≤ n1 ∧ ii = .int .i64 (i : Int) ∧ OM wr w.heap.size A1 n1 c1 ps sp ∧ GK wr w.heap.size A2 n2 c2 kd ∧ Below w.heap.size w wr)
          (fun ii _ => n1 - (intOf ii).toNat)
        case atStart => exact ⟨0, ps, by omega, rfl, om2, gk2, b3⟩
        case round =>
          clear om2 gk2 b3 HYES HT EQ
          obtain ⟨i, ps, hi, rfl, om, gk, bw⟩ := hrel
          by_cases hlt : i < n1
          · rcases GC.oc om.row with ⟨-, q, -⟩ | ⟨g, rfl, gb, orow⟩
            · omega
            have hps : i < ps.length := by rw [om.n]; exact hlt
            obtain ⟨⟨Ai, ni, ci⟩, hp⟩ : ∃ p, ps[i]? = some p := ⟨_, List.getElem?_eq_getElem hps⟩
            obtain ⟨xs, hx⟩ : ∃ xs, sp[i]? = some xs := ⟨_, List.getElem?_eq_getElem (by rw [← om.len]; exact hps)⟩
            have cell := OC.cell orow i (.slice Ai ni ci) (by rw [List.getElem?_map, hp]; rfl)
            have rs := (om.each i _ xs hp hx).read
            simp only at rs
            have nl : ni ≤ 10000 := by rw [← rs.len]; exact HF.out.s xs (List.mem_of_getElem? hx)
            have gl := orow.lt
            have n7 : n1 ≤ 70000 := by rw [← om.n, om.len]; exact HF.out.n
            have i1 : (i : Int) < (n1 : Int) := by omega
            clear hps hp
            go_wp2_with (first
              | (at_make; refine wpB_make rfl _ _ rfl _ _ _ ni rfl rfl rfl (by omega) ?_; intro g2 w2' s2 o2 k2; have bb2 := below_of_grown k2 (Nat.le_refl _) (by simp); have r2 := RB.below rs bb2)
              | (with_reducible refine wpB_app rfl (.tmp 48) (.tmp 49) rfl _ _ _ _ rfl o2 _ _ _ _ rfl r2 ni (by omega) (by omega) ?_; intro g3 c3 w3 q3 p3 o3 k3; have bb := blw_own bb2 k3 bb2.size s2; have cell3 := (bb.cell (p := ⟨g, i, none⟩) gl).trans cell; have f3 := (orow.below bb).free i))
            rw [List.nil_append] at o3
            have g3l : wr.heap.size ≤ g3 := by
              rcases q3 with rfl | q3
              · exact s2
              · exact Nat.le_trans bb2.size q3
            have om3 := om.below bb
            have gx := grownBy_set w3 g i (.slice (some ⟨g3, 0, none⟩) ni c3)
            have om4 := om3.set i hx (GB.of o3 g3l) om.lt bw.size
            have gk4 : GK _ w.heap.size A2 n2 c2 kd := GC.apart (GC.below gk bb) om3.row gx (by decide)
            have b5 := blw_own (blw_step bw bb) gx (blw_step bw bb).size gb
            go_roundw
            case rel => exact ⟨i + 1, _, by omega, by go_num, om4, gk4, b5⟩
            case measure => simp [intOf]; omega
          · obtain rfl : n1 = i := by omega
            go_wp2
            (try simp only [Exit.inBlock, Exit.then]); refine bodyPost_ret (results_four rfl _ _ _) rfl ?_
            exact HY.out _ _ _ _ _ _ _ _ om gk bw
    · have hno : okDec b = false := by rw [hok]; exact decide_eq_false (fun q => hcd q.1)
      have hcd' : (cd != 0) = true := by rw [bne_iff_ne]; exact hcd
      clear hok hcd HYES
      go_wp2
      (try simp only [Exit.inBlock, Exit.then]); refine bodyPost_ret (results_four rfl _ _ _) rfl ?_
      exact DecodeOut.no hno rfl b3
  · have hno : okDec b = false := decide_eq_false (fun q => hn (hl ▸ q.1))
    have hn' : ((n : Int) != 4092) = true := by rw [bne_iff_ne]; omega
    clear hl hn
    go_enter Try.func29, Try.ntmps29
    go_wp2
    (try simp only [Exit.inBlock, Exit.then]); refine bodyPost_ret (results_four rfl _ _ _) rfl ?_
    exact DecodeOut.no hno rfl (Below.refl _ _)
end Go.Proofs.Ythboanaogfmefaa
