/- bytes.Equal, branch.Decode. -/
import Derived.Test.YtmeakhiiebeneaaGreatDoorPe
import Derived.Test.YtmeakhiiebeneaaGreatDoorPg
import Derived.Test.YtmeakhiiebeneaaGreatDoorM1
namespace Go.Proofs.YtmeakhiiebeneaaGreatDoor
open Go.RowKit

set_option maxRecDepth 100000 in
set_option maxHeartbeats 400000 in
theorem Equal_calls (A A' : Option Addr) (n c n' c' : Nat) (xs ys : List UInt8) (w : World) (h : RB w A n c xs) (h' : RB w A' n' c' ys) (r : Bool) (hr : r = decide (xs = ys)) :
    Calls Tryz.prog 105 #[.slice A n c, .slice A' n' c'] w fun e w' => e = .returned (.bool r) ∧ w = w' := by
  have k1 := conv_str (P := Tryz.prog) (src := 40) (dst := 9) w Tryz.underlying40 Tryz.underlying5 Tryz.underlying9 h
  have k2 := conv_str (P := Tryz.prog) (src := 40) (dst := 9) w Tryz.underlying40 Tryz.underlying5 Tryz.underlying9 h'
  subst hr
  go_enter Tryz.func105, Tryz.ntmps105
  go_wp2
  go_ret
  refine ⟨?_, rfl⟩
  show Ending.returned (.bool (xs == ys)) = _
  congr 2
  rw [Bool.eq_iff_iff]; simp

set_option maxRecDepth 100000 in
/-- One slice of a row written anew. -/
theorem OM.set {w : World} {base n c g lo n' c' : Nat} {A' : Option Addr} {ps : List (Option Addr × Nat × Nat)} {xss : List (List UInt8)} {xs : List UInt8} (h : OM w base (some ⟨g, 0, none⟩) n c ps xss) (i : Nat) (hx : xss[i]? = some xs) (hp : GB w lo A' n' c' xs)
    (hlo : ∀ p ∈ ps, ∀ a, p.1 = some a → a.block < lo) (hb : base ≤ lo) : OM (w.setCell ⟨g, i, none⟩ (.slice A' n' c')) base (some ⟨g, 0, none⟩) n c (ps.set i (A', n', c')) xss := by
  have gx : w.grownBy (w.setCell ⟨g, i, none⟩ (.slice A' n' c')) ((some (⟨g, 0, none⟩ : Addr)).map (·.block)) := grownBy_set w g i _
  refine ⟨?_, by rw [List.length_set]; exact h.len, ?_, ?_⟩
  · rcases GC.oc h.row with ⟨q, _⟩ | ⟨g2, q, hb2, o2⟩
    · cases q
    · cases q
      have := o2.set i (.slice A' n' c')
      rw [show Value.slice A' n' c' = sv (A', n', c') from rfl, ← List.map_set] at this
      exact GC.of this hb2
  · intro j p ys h1 h2
    rw [List.getElem?_set] at h1
    split at h1
    · rename_i hij
      subst hij
      split at h1
      · cases h1
        rw [hx] at h2
        cases h2
        exact GC.apart (GC.lower hp hb) h.row gx (by decide)
      · cases h1
    · exact GC.apart (h.each j p ys h1 h2) h.row gx (by decide)
  · rw [List.pairwise_iff_getElem]
    have hq := List.pairwise_iff_getElem.1 h.inc
    intro a b ha hbb hab u v hu hv
    rw [List.getElem_set] at hu hv
    rw [List.length_set] at ha hbb
    split at hu
    · split at hv
      · omega
      · have h1 := (hp.lt u hu).2
        have h2 := hlo _ (List.getElem_mem hbb) v hv
        omega
    · split at hv
      · have h1 := (hp.lt v hv).2
        have h2 := hlo _ (List.getElem_mem ha) u hu
        omega
      · exact hq a b ha hbb hab u v hu hv

def levD (b : List UInt8) : Int := ((levS b).1 : Nat)
def kidsD (b : List UInt8) : List (Int × Int) := ki (fstS b).1 :: (restS b).2
def okDec (b : List UInt8) : Bool := decide (b.length = 4092 ∧ (encB (levD b) (restS b).1 (kidsD b)).2 = 0 ∧ (encB (levD b) (restS b).1 (kidsD b)).1 = b)
def DecodeOut (w : World) (b : List UInt8) (en : Ending) (w' : World) : Prop :=
  ∃ (A1 : Option Addr) (n1 c1 : Nat) (ps : List (Option Addr × Nat × Nat)) (A2 : Option Addr) (n2 c2 : Nat),
    en = .returned (.tuple #[.int .i64 (if okDec b then levD b else 0), .slice A1 n1 c1, .slice A2 n2 c2, .int .i64 (if okDec b then 0 else 50)]) ∧ OM w' w.heap.size A1 n1 c1 ps (if okDec b then (restS b).1 else []) ∧ GK w' w.heap.size A2 n2 c2 (if okDec b then kidsD b else []) ∧ Below w.heap.size w w'
set_option maxRecDepth 100000 in
theorem DecodeOut.no {w w' : World} {b : List UInt8} {en : Ending} (h : okDec b = false) (he : en = .returned (.tuple #[.int .i64 0, .slice none 0 0, .slice none 0 0, .int .i64 50])) (hb : Below w.heap.size w w') : DecodeOut w b en w' := by
  unfold DecodeOut
  rw [h]
  exact ⟨none, 0, 0, [], none, 0, 0, he, OM.nil _ _, GC.nil _ _ _ _, hb⟩

set_option maxRecDepth 100000 in
theorem results_four {fn : Func} {t u v x : Tmp} (h : fn.results = #[.tmp t, .tmp u, .tmp v, .tmp x]) (tmps : Array Value) (P : Program) (w : World) : (results fn tmps).run P w = .ok (.tuple #[tmps.getD t undef, tmps.getD u undef, tmps.getD v undef, tmps.getD x undef]) w := by
  simp [results, h]
set_option maxRecDepth 100000 in
set_option maxHeartbeats 2000000 in
theorem Decode_calls (A : Option Addr) (n c : Nat) (b : List UInt8) (w : World) (h : RB w A n c b) :
    Calls Tryz.prog 49 #[.slice A n c] w (DecodeOut w b) := by
  have hl := h.len
  by_cases hn : n = 4092
  · subst hn
    have RD := fun W q => read_calls A 4092 c b W q (by omega)
    have hf := read_few b
    obtain ⟨sp, hsp⟩ : ∃ sp, (restS b).1 = sp := ⟨_, rfl⟩
    obtain ⟨kd, hkd⟩ : ∃ kd, kidsD b = kd := ⟨_, rfl⟩
    have hkd' : ki (fstS b).1 :: (restS b).2 = kd := hkd
    obtain ⟨lv, hlv⟩ : ∃ lv, levD b = lv := ⟨_, rfl⟩
    have hlv' : (((levS b).1 : Nat) : Int) = lv := hlv
    rw [hsp] at hf
    rw [hsp, hkd', hlv'] at RD
    obtain ⟨bd, cd, hen⟩ : ∃ bd cd, encB lv sp kd = (bd, cd) := ⟨_, _, rfl⟩
    have hok : okDec b = decide (cd = 0 ∧ bd = b) := by
      unfold okDec
      rw [hsp, hkd, hlv, hen, hl]; simp
    have HYES : Hid (okDec b = true → ∀ (w' : World) (A1 : Option Addr) (n1 c1 : Nat) (ps : List (Option Addr × Nat × Nat)) (A2 : Option Addr) (n2 c2 : Nat), OM w' w.heap.size A1 n1 c1 ps sp → GK w' w.heap.size A2 n2 c2 kd → Below w.heap.size w w' → DecodeOut w b (.returned (.tuple #[.int .i64 lv, .slice A1 n1 c1, .slice A2 n2 c2, .int .i64 0])) w') := hideIt (by
      intro q w' A1 n1 c1 ps A2 n2 c2 h1 h2 h3
      unfold DecodeOut
      rw [q, hsp, hkd, hlv]
      exact ⟨A1, n1, c1, ps, A2, n2, c2, rfl, h1, h2, h3⟩)
    have ENC := fun (a1 : Option Addr) (m1 d1 : Nat) (vs : List Value) (a2 : Option Addr) (m2 d2 : Nat) (W : World) (q1 : RM W a1 m1 d1 vs sp) (q2 : RK W a2 m2 d2 kd) => Encode_calls lv a1 m1 d1 vs sp a2 m2 d2 kd W q1 (by have := q1.len; rw [← this]; exact hf) q2
    rw [hen] at ENC
    have HF := hideIt hf
    clear hsp hkd hkd' hlv hlv' hen hf hl
    go_enter Tryz.func49, Tryz.ntmps49
    go_upto_region 4 with (go_at_call 104; refine (RD _ h).mono ?_; rintro en w1 ⟨A1, n1, c1, ps, A2, n2, c2, rfl, om, gk, b1⟩)
    have h1 := h.below b1
    clear RD
    go_upto_region 5 with (go_at_call 48; refine (ENC _ _ _ _ _ _ _ _ om.read (GK.read gk)).mono ?_; rintro en w2 ⟨A3, n3, rfl, eb, b2⟩)
    have om2 := om.below b2
    have gk2 : GK w2 w.heap.size A2 n2 c2 kd := GC.below gk b2
    have h2 := h1.below b2
    have b3 := blw_step b1 b2
    clear ENC om gk h1 b1 b2
    by_cases hcd : cd = 0
    · subst hcd
      obtain ⟨t, ht⟩ : ∃ t, decide (bd = b) = t := ⟨_, rfl⟩
      have EQ := Equal_calls _ _ _ _ _ _ _ _ w2 (GB.read eb) h2 t ht.symm
      have hok2 : okDec b = t := by rw [hok, ← ht]; simp
      have HT := hideIt hok2
      clear hok ht hok2 eb h2
      cases t
      · go_wp2_with (go_at_call 105; refine EQ.mono ?_; rintro en wx ⟨rfl, rfl⟩)
        (try simp only [Exit.inBlock, Exit.then]); refine bodyPost_ret (results_four rfl _ _ _) rfl ?_
        exact DecodeOut.no HT.out rfl b3
      · have HY := hideIt (HYES.out HT.out)
        go_wp2_with (go_at_call 105; refine EQ.mono ?_; rintro en wx ⟨rfl, rfl⟩)
        go_loopw [39] (fun ii wr => ∃ (i : Nat) (ps : List (Option Addr × Nat × Nat)), i ≤ n1 ∧ ii = .int .i64 (i : Int) ∧ OM wr w.heap.size A1 n1 c1 ps sp ∧ GK wr w.heap.size A2 n2 c2 kd ∧ Below w.heap.size w wr)
          (fun ii _ => n1 - (intOf ii).toNat)
        case atStart => exact ⟨0, ps, by omega, rfl, om2, gk2, b3⟩
        case round =>
          clear om2 gk2 b3 HYES HT EQ
          obtain ⟨i, ps, hi, rfl, om, gk, bw⟩ := hrel
          by_cases hlt : i < n1
          · rcases GC.oc om.row with ⟨-, q, -⟩ | ⟨g, rfl, gb, orow⟩
            · omega
            have hps : i < ps.length := by rw [om.n]; exact hlt
            obtain ⟨⟨Ai, ni, ci⟩, hp⟩ : ∃ p, ps[i]? = some p := ⟨_, List.getElem?_eq_getElem hps⟩
            obtain ⟨xs, hx⟩ : ∃ xs, sp[i]? = some xs := ⟨_, List.getElem?_eq_getElem (by rw [← om.len]; exact hps)⟩
            have cell := OC.cell orow i (.slice Ai ni ci) (by rw [List.getElem?_map, hp]; rfl)
            have rs := (om.each i _ xs hp hx).read
            simp only at rs
            have nl : ni ≤ 10000 := by rw [← rs.len]; exact HF.out.s xs (List.mem_of_getElem? hx)
            have gl := orow.lt
            have n7 : n1 ≤ 70000 := by rw [← om.n, om.len]; exact HF.out.n
            have i1 : (i : Int) < (n1 : Int) := by omega
            clear hps hp
            go_wp2_with (first
              | (at_make; refine wpB_make rfl _ _ rfl _ _ _ ni rfl rfl rfl (by omega) ?_; intro g2 w2' s2 o2 k2; have bb2 := below_of_grown k2 (Nat.le_refl _) (by simp); have r2 := RB.below rs bb2)
              | (with_reducible refine wpB_app rfl (.tmp 48) (.tmp 49) rfl _ _ _ _ rfl o2 _ _ _ _ rfl r2 ni (by omega) (by omega) ?_; intro g3 c3 w3 q3 p3 o3 k3; have bb := blw_own bb2 k3 bb2.size s2; have cell3 := (bb.cell (p := ⟨g, i, none⟩) gl).trans cell; have f3 := (orow.below bb).free i))
            rw [List.nil_append] at o3
            have g3l : wr.heap.size ≤ g3 := by
              rcases q3 with rfl | q3
              · exact s2
              · exact Nat.le_trans bb2.size q3
            have om3 := om.below bb
            have gx := grownBy_set w3 g i (.slice (some ⟨g3, 0, none⟩) ni c3)
            have om4 := om3.set i hx (GB.of o3 g3l) om.lt bw.size
            have gk4 : GK _ w.heap.size A2 n2 c2 kd := GC.apart (GC.below gk bb) om3.row gx (by decide)
            have b5 := blw_own (blw_step bw bb) gx (blw_step bw bb).size gb
            go_roundw
            case rel => exact ⟨i + 1, _, by omega, by go_num, om4, gk4, b5⟩
            case measure => simp [intOf]; omega
          · obtain rfl : n1 = i := by omega
            go_wp2
            (try simp only [Exit.inBlock, Exit.then]); refine bodyPost_ret (results_four rfl _ _ _) rfl ?_
            exact HY.out _ _ _ _ _ _ _ _ om gk bw
    · have hno : okDec b = false := by rw [hok]; exact decide_eq_false (fun q => hcd q.1)
      have hcd' : (cd != 0) = true := by rw [bne_iff_ne]; exact hcd
      clear hok hcd HYES
      go_wp2
      (try simp only [Exit.inBlock, Exit.then]); refine bodyPost_ret (results_four rfl _ _ _) rfl ?_
      exact DecodeOut.no hno rfl b3
  · have hno : okDec b = false := decide_eq_false (fun q => hn (hl ▸ q.1))
    have hn' : ((n : Int) != 4092) = true := by rw [bne_iff_ne]; omega
    clear hl hn
    go_enter Tryz.func49, Tryz.ntmps49
    go_wp2
    (try simp only [Exit.inBlock, Exit.then]); refine bodyPost_ret (results_four rfl _ _ _) rfl ?_
    exact DecodeOut.no hno rfl (Below.refl _ _)
end Go.Proofs.YtmeakhiiebeneaaGreatDoor
/- Plain: what branch.read answers at a branch's own body. No program in sight. -/
namespace Go.Proofs.YtmeakhiiebeneaaGreatDoor
open Go.RowKit

set_option maxRecDepth 100000 in
theorem drop_le {B x r : List UInt8} {at_ : Nat} (h : B.drop at_ = x ++ r) (hb : at_ ≤ B.length) : at_ + x.length ≤ B.length := by
  have := congrArg List.length h
  rw [List.length_drop, List.length_append] at this
  omega
set_option maxRecDepth 100000 in
theorem kidS_front (B : List UInt8) (at_ : Nat) (k : Int × Int) (r : List UInt8) (h : B.drop at_ = kidB k ++ r) (hb : at_ ≤ B.length) (hk : kidOk k = true) : ki (kidS B at_ 0).1 = k ∧ (kidS B at_ 0).2 = (at_ + 8, 0) := by
  obtain ⟨h1, h2, h3, h4⟩ := kid_toNat hk
  have hl := drop_le h hb
  rw [kidB_length] at hl
  unfold kidB at h
  rw [List.append_assoc] at h
  have e1 := numS_front B at_ 4 k.1.toNat _ h h3 (by omega)
  have hd := drop_more h
  rw [leB_length] at hd
  have e2 := numS_front B (at_ + 4) 4 k.2.toNat _ hd h4 (by omega)
  unfold kidS ki
  rw [e1]
  simp only
  rw [e2]
  simp only
  rw [h1, h2]
  exact ⟨rfl, trivial⟩
set_option maxRecDepth 100000 in
theorem strS_front (B : List UInt8) (at_ d : Nat) (x r : List UInt8) (h : B.drop at_ = vF 9 d ++ (x ++ r)) (hb : at_ ≤ B.length) (hx : x.length = d) (hd : d ≤ 4092) : strS B at_ 0 = (x, at_ + vl d + d, 0) := by
  have e1 := vS_front B at_ d _ h (by omega)
  have hl := drop_le h hb
  have hm := drop_more h
  have hl2 := drop_le hm hl
  rw [hx] at hl2
  unfold strS
  rw [e1]
  simp only
  rw [Nat.min_eq_left hd]
  exact bytesS_front B _ d x r hm hx hl2
set_option maxRecDepth 100000 in
theorem seps_body (B pre : List UInt8) (p : Nat) (zs : List (List UInt8 × (Int × Int))) (at_ : Nat) (r : List UInt8) (h : B.drop at_ = cz p zs ++ r) (hb : at_ ≤ B.length)
    (hz : ∀ z ∈ zs, z.1.take p = pre ∧ z.1.length - p ≤ 4092 ∧ kidOk z.2 = true) : sepsS B pre zs.length at_ 0 = (zs.map (·.1), zs.map (·.2)) := by
  induction zs generalizing at_ with
  | nil => rfl
  | cons z zs ih =>
    obtain ⟨h1, h2, h3⟩ := hz z (by simp)
    rw [cz_cons, List.append_assoc] at h
    have hc := h
    unfold cellB at h
    rw [List.append_assoc, List.append_assoc] at h
    have e1 := strS_front B at_ (z.1.length - p) (z.1.drop p) _ h hb (by rw [List.length_drop]) h2
    have l1 := drop_le h hb
    have d1 := drop_more h
    have l2 := drop_le d1 l1
    have d2 := drop_more d1
    rw [List.length_drop, show (vF 9 (z.1.length - p)).length = vl (z.1.length - p) from rfl] at l2 d2
    obtain ⟨k1, k2⟩ := kidS_front B _ z.2 _ d2 l2 h3
    have l3 := drop_le d2 l2
    have d3 := drop_more d2
    rw [kidB_length] at l3 d3
    have hlen := drop_le hc hb
    have hcl := cellB_length p z
    have hleft : ¬ leftS B at_ 0 = 0 := by
      unfold leftS
      rw [if_pos rfl]
      omega
    rw [List.length_cons, sepsS, if_neg hleft, e1]
    simp only
    rw [k1, k2]
    simp only
    rw [ih _ d3 l3 (fun y hy => hz y (by simp [hy]))]
    simp only [List.map_cons, ← h1, List.take_append_drop]
set_option maxRecDepth 100000 in
theorem lev_one {level : Int} (h1 : 1 ≤ level) (h2 : level ≤ 15) : [UInt8.ofNat level.toNat] = leB level.toNat 1 := by
  unfold leB
  rw [show leB (level.toNat / 256) 0 = [] from rfl]
  congr 1
  first | rfl | (rw [Nat.mod_eq_of_lt (by omega)])
set_option maxRecDepth 100000 in
theorem zip_fst_snd (l : List (List UInt8)) (ks : List (Int × Int)) (h : ks.length = l.length + 1) : (zips l ks).map (·.1) = l ∧ (zips l ks).map (·.2) = ks.drop 1 := by
  unfold zips
  exact ⟨List.map_fst_zip (by rw [List.length_drop]; omega), List.map_snd_zip (by rw [List.length_drop]; omega)⟩
set_option maxRecDepth 100000 in
theorem read_body {level : Int} {l : List (List UInt8)} {ks : List (Int × Int)} (h : Ok level l ks) : levD (bodyB level l ks) = level ∧ (restS (bodyB level l ks)).1 = l ∧ kidsD (bodyB level l ks) = ks := by
  have hB := bodyB_length h
  have hf := few_seps h
  obtain ⟨B, eB⟩ : ∃ B, bodyB level l ks = B := ⟨_, rfl⟩
  rw [eB] at hB ⊢
  have hle : Key.comAll l ≤ 4092 := by
    have := h.size
    unfold sizeS at this
    omega
  have hpl : ((l.headD []).take (Key.comAll l)).length = Key.comAll l := by
    rw [List.length_take]
    by_cases hn : l = []
    · subst hn; rfl
    · exact Nat.min_eq_left (pre_le_head l hn)
  have d0 : B.drop 0 = leB 2 1 ++ (leB level.toNat 1 ++ (leB ks.length 2 ++ (vF 9 (Key.comAll l) ++ ((l.headD []).take (Key.comAll l) ++ (sz ((headB level l ks).length + 2 * l.length + 8) (Key.comAll l) (zips l ks) l.length ++ (kidB (kid0 ks) ++ (cz (Key.comAll l) (zips l ks) ++ List.replicate (4092 - sizeS l) 0))))))) := by
    rw [List.drop_zero, ← eB, ← lev_one h.l1 h.l2]
    unfold bodyB usedB frontB
    rw [show leB 2 1 = [2] from rfl]
    conv => lhs; unfold headB
    simp only [List.append_assoc, List.cons_append, List.nil_append]
    congr 5
  have q1 := numS_front B 0 1 2 _ d0 (by decide) (by omega)
  have d1 := drop_more d0
  rw [leB_length] at d1
  have q2 := numS_front B (0 + 1) 1 level.toNat _ d1 (Nat.lt_of_le_of_lt (m := 15) (by have := h.l2; omega) (by decide)) (by omega)
  have d2 := drop_more d1
  rw [leB_length] at d2
  have q3 := numS_front B (0 + 1 + 1) 2 ks.length _ d2 (Nat.lt_of_le_of_lt (m := 373) (by rw [h.n]; omega) (by decide)) (by omega)
  have d3 := drop_more d2
  rw [leB_length] at d3
  have q4 := strS_front B (0 + 1 + 1 + 2) (Key.comAll l) _ _ d3 (by omega) hpl hle
  have l3 := drop_le d3 (by omega)
  have d4 := drop_more d3
  have l4 := drop_le d4 l3
  have d5 := drop_more d4
  rw [hpl, show (vF 9 (Key.comAll l)).length = vl (Key.comAll l) from rfl] at l4 d5
  have hsl := sz_length ((headB level l ks).length + 2 * l.length + 8) (Key.comAll l) (zips l ks) l.length
  have l5 := drop_le d5 l4
  rw [hsl] at l5
  have q5 := bytesS_front B _ (2 * l.length) _ _ d5 hsl l5
  have d6 := drop_more d5
  rw [hsl] at d6
  obtain ⟨k, hk⟩ : ∃ k, ks[0]? = some k := ⟨_, List.getElem?_eq_getElem (by rw [h.n]; omega)⟩
  have ek : kid0 ks = k := by
    unfold kid0
    rw [List.headD_eq_head?_getD, List.head?_eq_getElem?, hk]; rfl
  have e1 : ks = k :: ks.drop 1 := by
    cases ks with
    | nil => simp at hk
    | cons a t => simp at hk; subst hk; rfl
  rw [ek] at d6
  obtain ⟨k1, k2⟩ := kidS_front B _ k _ d6 l5 (h.kids k (List.mem_of_getElem? hk))
  have l6 := drop_le d6 l5
  have d7 := drop_more d6
  rw [kidB_length] at l6 d7
  obtain ⟨z1, z2⟩ := zip_fst_snd l ks h.n
  have q7 := seps_body B ((l.headD []).take (Key.comAll l)) (Key.comAll l) (zips l ks) _ _ d7 l6 (by
    intro z hz
    have m1 : z.1 ∈ l := by rw [← z1]; exact List.mem_map_of_mem hz
    have m2 : z.2 ∈ ks := List.mem_of_mem_drop (i := 1) (by rw [← z2]; exact List.mem_map_of_mem hz)
    have := of_decide_eq_true (h.seps _ m1)
    exact ⟨(pre_take l _ m1).1, by omega, h.kids _ m2⟩)
  rw [zips_length l ks h.n, z1, z2] at q7
  have hkd : kindS B = (2, 0 + 1, 0) := q1
  have hlv : levS B = (level.toNat, 0 + 1 + 1, 0) := by unfold levS; rw [hkd]; exact q2
  have hct : cntS B = (ks.length, 0 + 1 + 1 + 2, 0) := by unfold cntS; rw [hlv]; exact q3
  have hpr := q4
  have hps : preS B = ((l.headD []).take (Key.comAll l), 0 + 1 + 1 + 2 + vl (Key.comAll l) + Key.comAll l, 0) := by unfold preS; rw [hct]; exact hpr
  have hn1 : ks.length - 1 = l.length := by rw [h.n]; rfl
  have hsk : (skipS B).2 = (0 + 1 + 1 + 2 + vl (Key.comAll l) + Key.comAll l + 2 * l.length, 0) := by
    unfold skipS
    rw [hps, hct]
    simp only
    rw [hn1, show (2 : Int) * ((l.length : Nat) : Int) = ((2 * l.length : Nat) : Int) by omega, q5]
  have hfs : fstS B = kidS B (0 + 1 + 1 + 2 + vl (Key.comAll l) + Key.comAll l + 2 * l.length) 0 := by unfold fstS; rw [hsk]
  have hrs : restS B = (l, ks.drop 1) := by
    unfold restS
    rw [hps, hct, hfs, k2, hn1]
    exact q7
  refine ⟨?_, ?_, ?_⟩
  · unfold levD
    rw [hlv]
    have := h.l1
    show ((level.toNat : Nat) : Int) = level
    omega
  · rw [hrs]
  · unfold kidsD
    rw [hrs, hfs, k1]
    exact e1.symm
set_option maxRecDepth 100000 in
theorem body_dec {b : List UInt8} {level : Int} {l : List (List UInt8)} {ks : List (Int × Int)} (h : IsBody b level l ks) : okDec b = true ∧ levD b = level ∧ (restS b).1 = l ∧ kidsD b = ks := by
  obtain ⟨hw, rfl⟩ := h
  have hO := ok_of hw
  obtain ⟨h1, h2, h3⟩ := read_body hO
  refine ⟨?_, h1, h2, h3⟩
  unfold okDec
  rw [h1, h2, h3]
  unfold encB
  rw [if_pos hw]
  exact decide_eq_true ⟨bodyB_length hO, rfl, rfl⟩
set_option maxRecDepth 100000 in
theorem dec_body {b : List UInt8} (h : okDec b = true) : IsBody b (levD b) (restS b).1 (kidsD b) := by
  have q := of_decide_eq_true h
  unfold encB at q
  by_cases hw : wrongS (levD b) (restS b).1 (kidsD b) = 0
  · rw [if_pos hw] at q
    exact ⟨hw, q.2.2⟩
  · rw [if_neg hw] at q
    exact absurd q.2.1 hw
set_option maxRecDepth 100000 in
theorem one_body {b : List UInt8} {v v' : Int} {l l' : List (List UInt8)} {ks ks' : List (Int × Int)} (h : IsBody b v l ks) (h' : IsBody b v' l' ks') : v = v' ∧ l = l' ∧ ks = ks' := by
  obtain ⟨-, h1, h2, h3⟩ := body_dec h
  obtain ⟨-, k1, k2, k3⟩ := body_dec h'
  exact ⟨h1.symm.trans k1, h2.symm.trans k2, h3.symm.trans k3⟩
end Go.Proofs.YtmeakhiiebeneaaGreatDoor
/- Plain: what coppiceref5.read reads, and that it reads a branch's own body. No program in sight. -/
namespace Go.Proofs.YtmeakhiiebeneaaGreatDoor
open Go.RowKit

def least3 (L : List UInt8) : Nat → Nat → Nat → Option (Nat × Nat)
  | 0, _, _ => none
  | f + 1, k, x =>
    match L[k]? with
    | none => none
    | some c => if c.toNat < 128 then (if c.toNat = 0 ∧ 0 < k then none else some (x + c.toNat * 128 ^ k, k + 1)) else least3 L f (k + 1) (x + c.toNat % 128 * 128 ^ k)
/-- The number in its least form (of three bytes at most) at a place, and the place behind it. -/
def leastS (B : List UInt8) (at_ : Nat) : Option (Nat × Nat) := (least3 (B.drop at_) 3 0 0).map fun p => (p.1, at_ + p.2)
def numR (B : List UInt8) (at_ : Nat) : Nat := (B.getD at_ 0).toNat + (B.getD (at_ + 1) 0).toNat * 256 + (B.getD (at_ + 2) 0).toNat * 65536 + (B.getD (at_ + 3) 0).toNat * 16777216
def kidR (B : List UInt8) (at_ : Nat) : Int × Int := ((numR B at_ : Nat), (numR B (at_ + 4) : Nat))
def sepsR (B pre : List UInt8) : Nat → Nat → Option (List (List UInt8) × List (Int × Int))
  | 0, _ => some ([], [])
  | k + 1, at_ =>
    match leastS B at_ with
    | none => none
    | some (s, nx) => if nx + s + 8 ≤ B.length then (sepsR B pre k (nx + s + 8)).map fun q => ((pre ++ (B.drop nx).take s) :: q.1, kidR B (nx + s) :: q.2) else none
def cntR (B : List UInt8) : Nat := (B.getD 2 0).toNat + 256 * (B.getD 3 0).toNat
def readR (B : List UInt8) : Option (Int × List (List UInt8) × List (Int × Int)) :=
  match leastS B 4 with
  | none => none
  | some (p, at_) => if cntR B ≠ 0 ∧ at_ + p + 2 * (cntR B - 1) + 8 ≤ B.length then
      (sepsR B ((B.drop at_).take p) (cntR B - 1) (at_ + p + 2 * (cntR B - 1) + 8)).map fun q => (((B.getD 1 0).toNat : Nat), q.1, kidR B (at_ + p + 2 * (cntR B - 1)) :: q.2)
    else none

set_option maxRecDepth 100000 in
theorem head_at {L r : List UInt8} {k : Nat} {b : UInt8} (h : L.drop k = b :: r) : L[k]? = some b := by
  have := congrArg (fun m => m[0]?) h
  simpa [List.getElem?_drop] using this
set_option maxRecDepth 100000 in
theorem least3_form (f : Nat) : ∀ (j k x d : Nat) (L r : List UInt8), L.drop k = vF j d ++ r → 0 < f → f ≤ j + 1 → d < 128 ^ f → (k = 0 ∨ 0 < d) → least3 L f k x = some (x + d * 128 ^ k, k + (vF j d).length) := by
  induction f with
  | zero => intro j k x d L r _ h0; omega
  | succ f ih =>
    intro j k x d L r h _ hj hd hk
    by_cases h1 : d < 128
    · rw [vF_small _ _ h1] at h ⊢
      have hb : (UInt8.ofNat d).toNat = d := byte_ofNat (by omega)
      rw [least3, head_at h]
      simp only [hb]
      rw [if_pos h1, if_neg (by omega)]
      rfl
    · have hf : 0 < f := by
        rcases Nat.eq_zero_or_pos f with q | q
        · subst q; simp at hd; omega
        · exact q
      obtain ⟨i, rfl⟩ : ∃ i, j = i + 1 := ⟨j - 1, by omega⟩
      rw [vF_big _ _ (by omega)] at h ⊢
      have hb : (UInt8.ofNat (d % 128 + 128)).toNat = d % 128 + 128 := byte_ofNat (by omega)
      rw [least3, head_at h]
      simp only [hb]
      rw [if_neg (by omega), show (d % 128 + 128) % 128 = d % 128 by omega]
      have hn : L.drop (k + 1) = vF i (d / 128) ++ r := by
        rw [← List.drop_drop, h]; rfl
      rw [ih i (k + 1) _ (d / 128) L r hn hf (by omega) (by rw [Nat.pow_succ] at hd; exact Nat.div_lt_of_lt_mul (by omega)) (Or.inr (by omega))]
      have e : d * 128 ^ k = d % 128 * 128 ^ k + d / 128 * 128 ^ (k + 1) := by
        have := Nat.div_add_mod d 128
        rw [Nat.pow_succ]
        generalize 128 ^ k = P
        conv => lhs; rw [← this]
        rw [Nat.add_mul, Nat.mul_comm 128 (d / 128), Nat.mul_assoc, Nat.mul_comm 128 P]
        omega
      rw [e, List.length_cons]
      congr 2 <;> omega
set_option maxRecDepth 100000 in
theorem leastS_form (B : List UInt8) (at_ d : Nat) (r : List UInt8) (h : B.drop at_ = vF 9 d ++ r) (hd : d < 2097152) : leastS B at_ = some (d, at_ + vl d) := by
  unfold leastS
  rw [least3_form 3 9 0 0 d (B.drop at_) r (by rw [List.drop_zero]; exact h) (by decide) (by decide) (by simpa using hd) (Or.inl rfl)]
  simp [vl]
set_option maxRecDepth 100000 in
theorem getD_drop (B : List UInt8) (at_ i : Nat) : B.getD (at_ + i) 0 = (B.drop at_).getD i 0 := by
  rw [List.getD_eq_getElem?_getD, List.getD_eq_getElem?_getD, List.getElem?_drop]
set_option maxRecDepth 100000 in
theorem numR_front (B : List UInt8) (at_ x : Nat) (r : List UInt8) (h : B.drop at_ = leB x 4 ++ r) (hx : x < 256 ^ 4) : numR B at_ = x := by
  have h0 := getD_drop B at_ 0
  rw [Nat.add_zero] at h0
  unfold numR
  rw [h0, getD_drop, getD_drop, getD_drop, h]
  have hx' : x < 4294967296 := hx
  simp [leB]
  omega
set_option maxRecDepth 100000 in
theorem kidR_front (B : List UInt8) (at_ : Nat) (k : Int × Int) (r : List UInt8) (h : B.drop at_ = kidB k ++ r) (hk : kidOk k = true) : kidR B at_ = k := by
  obtain ⟨h1, h2, h3, h4⟩ := kid_toNat hk
  unfold kidB at h
  rw [List.append_assoc] at h
  have e1 := numR_front B at_ _ _ h h3
  have hd := drop_more h
  rw [leB_length] at hd
  have e2 := numR_front B (at_ + 4) _ _ hd h4
  unfold kidR
  rw [e1, e2, h1, h2]
set_option maxRecDepth 100000 in
theorem sepsR_body (B pre : List UInt8) (p : Nat) (zs : List (List UInt8 × (Int × Int))) (at_ : Nat) (r : List UInt8) (h : B.drop at_ = cz p zs ++ r) (hb : at_ ≤ B.length)
    (hz : ∀ z ∈ zs, z.1.take p = pre ∧ z.1.length - p ≤ 4092 ∧ kidOk z.2 = true) : sepsR B pre zs.length at_ = some (zs.map (·.1), zs.map (·.2)) := by
  induction zs generalizing at_ with
  | nil => rfl
  | cons z zs ih =>
    obtain ⟨h1, h2, h3⟩ := hz z (by simp)
    rw [cz_cons, List.append_assoc] at h
    unfold cellB at h
    rw [List.append_assoc, List.append_assoc] at h
    have e1 := leastS_form B at_ (z.1.length - p) _ h (by omega)
    have l1 := drop_le h hb
    have d1 := drop_more h
    have l2 := drop_le d1 l1
    have d2 := drop_more d1
    rw [List.length_drop, show (vF 9 (z.1.length - p)).length = vl (z.1.length - p) from rfl] at l2 d2
    rw [show (vF 9 (z.1.length - p)).length = vl (z.1.length - p) from rfl] at d1
    have k1 := kidR_front B _ z.2 _ d2 h3
    have l3 := drop_le d2 l2
    have d3 := drop_more d2
    rw [kidB_length] at l3 d3
    rw [List.length_cons, sepsR, e1]
    simp only
    rw [if_pos l3, ih _ d3 l3 (fun y hy => hz y (by simp [hy])), k1, d1, List.take_left' (by rw [List.length_drop])]
    simp only [Option.map_some, List.map_cons, ← h1, List.take_append_drop]
set_option maxRecDepth 100000 in
theorem readR_body {level : Int} {l : List (List UInt8)} {ks : List (Int × Int)} (h : Ok level l ks) : readR (bodyB level l ks) = some (level, l, ks) := by
  have hB := bodyB_length h
  have hf := few_seps h
  obtain ⟨B, eB⟩ : ∃ B, bodyB level l ks = B := ⟨_, rfl⟩
  rw [eB] at hB ⊢
  have hle : Key.comAll l ≤ 4092 := by
    have := h.size
    unfold sizeS at this
    omega
  have hpl : ((l.headD []).take (Key.comAll l)).length = Key.comAll l := by
    rw [List.length_take]
    by_cases hn : l = []
    · subst hn; rfl
    · exact Nat.min_eq_left (pre_le_head l hn)
  obtain ⟨T, hT⟩ : ∃ T, vF 9 (Key.comAll l) ++ ((l.headD []).take (Key.comAll l) ++ (sz ((headB level l ks).length + 2 * l.length + 8) (Key.comAll l) (zips l ks) l.length ++ (kidB (kid0 ks) ++ (cz (Key.comAll l) (zips l ks) ++ List.replicate (4092 - sizeS l) 0)))) = T := ⟨_, rfl⟩
  have d0 : B = 2 :: UInt8.ofNat level.toNat :: (leB ks.length 2 ++ T) := by
    rw [← eB, ← hT]
    unfold bodyB usedB frontB
    simp only [headB, List.append_assoc, List.cons_append, List.nil_append]
  have g1 : (B.getD 1 0).toNat = level.toNat := by
    rw [d0]
    exact byte_ofNat (by have := h.l2; omega)
  have hn : cntR B = ks.length := by
    unfold cntR
    rw [d0]
    simp [leB]
    have := h.n
    omega
  have d3 : B.drop 4 = T := by rw [d0]; simp [leB]
  rw [← hT] at d3
  have e4 := leastS_form B 4 (Key.comAll l) _ d3 (by omega)
  have l3 := drop_le d3 (by omega)
  have d4 := drop_more d3
  have l4 := drop_le d4 l3
  have d5 := drop_more d4
  rw [show (vF 9 (Key.comAll l)).length = vl (Key.comAll l) from rfl] at d4
  rw [hpl, show (vF 9 (Key.comAll l)).length = vl (Key.comAll l) from rfl] at l4 d5
  have hsl := sz_length ((headB level l ks).length + 2 * l.length + 8) (Key.comAll l) (zips l ks) l.length
  have l5 := drop_le d5 l4
  have d6 := drop_more d5
  rw [hsl] at d6 l5
  obtain ⟨k, hk⟩ : ∃ k, ks[0]? = some k := ⟨_, List.getElem?_eq_getElem (by rw [h.n]; omega)⟩
  have ek : kid0 ks = k := by
    unfold kid0
    rw [List.headD_eq_head?_getD, List.head?_eq_getElem?, hk]; rfl
  have e1 : ks = k :: ks.drop 1 := by
    cases ks with
    | nil => simp at hk
    | cons a t => simp at hk; subst hk; rfl
  rw [ek] at d6
  have k1 := kidR_front B _ k _ d6 (h.kids k (List.mem_of_getElem? hk))
  have l6 := drop_le d6 l5
  have d7 := drop_more d6
  rw [kidB_length] at l6 d7
  obtain ⟨z1, z2⟩ := zip_fst_snd l ks h.n
  have q7 := sepsR_body B ((l.headD []).take (Key.comAll l)) (Key.comAll l) (zips l ks) _ _ d7 l6 (by
    intro z hz
    have m1 : z.1 ∈ l := by rw [← z1]; exact List.mem_map_of_mem hz
    have m2 : z.2 ∈ ks := List.mem_of_mem_drop (i := 1) (by rw [← z2]; exact List.mem_map_of_mem hz)
    have := of_decide_eq_true (h.seps _ m1)
    exact ⟨(pre_take l _ m1).1, by omega, h.kids _ m2⟩)
  rw [zips_length l ks h.n, z1, z2] at q7
  have hn1 : ks.length - 1 = l.length := by rw [h.n]; rfl
  unfold readR
  rw [e4]
  simp only
  rw [hn, hn1, if_pos ⟨by rw [h.n]; omega, l6⟩, d4, List.take_left' hpl, q7, k1, g1]
  have hl1 := h.l1
  simp only [Option.map_some, ← e1]
  rw [show ((level.toNat : Nat) : Int) = level by omega]
set_option maxRecDepth 100000 in
theorem sepsR_few (B pre : List UInt8) (k : Nat) : ∀ (at_ : Nat) (q : List (List UInt8) × List (Int × Int)), sepsR B pre k at_ = some q → q.1.length = k ∧ ∀ s ∈ q.1, s.length ≤ pre.length + B.length := by
  induction k with
  | zero => intro at_ q h; cases h; exact ⟨rfl, fun s hs => by cases hs⟩
  | succ k ih =>
    intro at_ q h
    rw [sepsR] at h
    split at h
    · cases h
    · split at h
      · rcases hq : sepsR B pre k _ with _ | q'
        · rw [hq] at h; cases h
        · rw [hq] at h
          cases h
          obtain ⟨h1, h2⟩ := ih _ q' hq
          refine ⟨by simp [h1], fun s hs => ?_⟩
          rcases List.mem_cons.1 hs with rfl | hs
          · rw [List.length_append, List.length_take, List.length_drop]; omega
          · exact h2 s hs
      · cases h
set_option maxRecDepth 100000 in
theorem leastS_le {B : List UInt8} {at_ x nx : Nat} (h : leastS B at_ = some (x, nx)) : x < 2097152 ∧ at_ < nx ∧ nx ≤ B.length ∧ nx ≤ at_ + 3 := by
  unfold leastS at h
  rcases h3 : least3 (B.drop at_) 3 0 0 with _ | ⟨a, b⟩
  · rw [h3] at h; cases h
  · rw [h3] at h
    simp only [Option.map_some, Option.some.injEq, Prod.mk.injEq] at h
    obtain ⟨rfl, rfl⟩ := h
    have key : ∀ (f k x : Nat) (a b : Nat), least3 (B.drop at_) f k x = some (a, b) → x < 128 ^ k → k < b ∧ b ≤ (B.drop at_).length ∧ b ≤ k + f ∧ a < 128 ^ b := by
      intro f
      induction f with
      | zero => intro k x a b h; cases h
      | succ f ih =>
        intro k x a b h hx
        rw [least3] at h
        split at h
        · cases h
        · rename_i c hc
          have hl := (List.getElem?_eq_some_iff.1 hc).1
          split at h
          · rename_i hc8
            split at h
            · cases h
            · cases h
              refine ⟨by omega, by omega, by omega, ?_⟩
              rw [Nat.pow_succ]
              have : c.toNat * 128 ^ k ≤ 127 * 128 ^ k := Nat.mul_le_mul_right _ (by omega)
              omega
          · have hm : c.toNat % 128 * 128 ^ k ≤ 127 * 128 ^ k := Nat.mul_le_mul_right _ (by omega)
            have := ih (k + 1) _ a b h (by rw [Nat.pow_succ]; omega)
            omega
    obtain ⟨g1, g2, g3, g4⟩ := key 3 0 0 _ _ h3 (by decide)
    rw [List.length_drop] at g2
    have : 128 ^ b ≤ 128 ^ 3 := Nat.pow_le_pow_right (by decide) (by omega)
    refine ⟨by omega, by omega, by omega, by omega⟩
set_option maxRecDepth 100000 in
theorem readR_few {B : List UInt8} {v : Int} {l : List (List UInt8)} {ks : List (Int × Int)} (h : readR B = some (v, l, ks)) (hB : B.length = 4092) : Few l.length l := by
  unfold readR at h
  split at h
  · cases h
  · rename_i p at_ hp
    split at h
    · rcases hq : sepsR B ((B.drop at_).take p) (cntR B - 1) (at_ + p + 2 * (cntR B - 1) + 8) with _ | q
      · rw [hq] at h; cases h
      · rw [hq] at h
        cases h
        obtain ⟨h1, h2⟩ := sepsR_few _ _ _ _ q hq
        have a1 := (B.getD 2 0).toNat_lt
        have a2 := (B.getD 3 0).toNat_lt
        have hc : cntR B < 65536 := by unfold cntR; omega
        refine ⟨by omega, fun s hs => ?_⟩
        have := h2 s hs
        rw [List.length_take, List.length_drop] at this
        omega
    · cases h
end Go.Proofs.YtmeakhiiebeneaaGreatDoor
