/- coppicelaw5.BranchOwns: the walk. -/
import Derived.Test.YtmeakhiiebeneaaGreatDoorNA
import Derived.Test.YtmeakhiiebeneaaGreatDoorPt
import Derived.Test.YtmeakhiiebeneaaGreatDoorPy
import Derived.Test.YtmeakhiiebeneaaGreatDoorPo
import Derived.Test.YtmeakhiiebeneaaGreatDoorPe
namespace Go.Proofs.YtmeakhiiebeneaaGreatDoor
open Go.RowKit

theorem Sm.ofS {wS w : World} {S gk : Nat} (ou : Out (fun g => g = gk ∨ S ≤ g) wS w) (sS : wS.heap.size = S) {g : Nat} (h1 : g < S) (h2 : g ≠ gk) : Sm wS w g := ou.sm (by rw [sS]; exact h1) (by
  rintro (e | e)
  · exact h2 e
  · omega)
theorem LK.ofS {wS w : World} {S gk : Nat} (ou : Out (fun g => g = gk ∨ S ≤ g) wS w) (sS : wS.heap.size = S) {b n c : Nat} {A : Option Addr} {l : List (Int × Int)} (o : LK wS b A n c l) (hb : gk < b) : LK w b A n c l := by
  obtain ⟨g, e, hg, oc⟩ := o
  exact ⟨g, e, hg, OC.same oc (Sm.ofS ou sS (by have := OC.lt oc; rw [sS] at this; exact this) (by omega))⟩
theorem LM.ofS {wS w : World} {S gk : Nat} (ou : Out (fun g => g = gk ∨ S ≤ g) wS w) (sS : wS.heap.size = S) {b n c gz : Nat} {A : Option Addr} {ps : List Slot} {xss : List (List UInt8)} (o : LM wS b A n c ps xss gz) (hb : gk < b) : LM w b A n c ps xss gz := by
  have hz : gz < S := by
    have := World.block_lt_of_cell? wS _ (RC.cell o.last ⟨gz, 0, none⟩ rfl 0 (.int .u8 203) rfl)
    rw [sS] at this
    simpa [Addr.add] using this
  refine ⟨GC.out o.row ou fun g q => ?_, o.len, fun j p xs h1 h2 => ?_, o.inc, o.last.same fun ad ea _ => ?_, o.lz, o.ne⟩
  · obtain ⟨a, ea, rfl⟩ := q
    have := o.row.lt a ea
    rw [sS] at this
    rintro (e | e) <;> omega
  · obtain ⟨g, c', e, hg, oc⟩ := o.each j p xs h1 h2
    exact ⟨g, c', e, hg, OC.same oc (Sm.ofS ou sS (by have := OC.lt oc; rw [sS] at this; exact this) (by omega))⟩
  · cases ea
    exact Sm.ofS ou sS hz (by have := o.lz; simp only; omega)
theorem Ew.gc {w0 wS w : World} {S gk : Nat} {k : Ce} (h : Ew w0 wS w S gk k) {bs : List Value} (hb : Bk wS gk bs) {b e sz n c : Nat} {A : Option Addr} {cs : List Value} (o : GC wS b e sz A n c cs) (ne : 39 ≠ e) : GC w b e sz A n c cs :=
  GC.out o h.oS fun g q => by
    rintro (rfl | z)
    · exact ne (ty_ne ⟨_, _, _, hb⟩ (o.atb q))
    · obtain ⟨a, ea, rfl⟩ := q
      have := (o.lt a ea).1
      rw [h.sS] at this; omega
theorem Ew.oc {w0 wS w : World} {S gk : Nat} {k : Ce} (h : Ew w0 wS w S gk k) {e sz g n c : Nat} {cs : List Value} (o : OC wS e sz g n c cs) (ne : g ≠ gk) : OC w e sz g n c cs :=
  OC.same o (h.sm (by have := OC.lt o; rw [h.sS] at this; exact this) ne)
theorem Ew.lk {w0 wS w : World} {S gk : Nat} {k : Ce} (h : Ew w0 wS w S gk k) {b n c : Nat} {A : Option Addr} {l : List (Int × Int)} (o : LK wS b A n c l) (hb : gk < b) : LK w b A n c l := by
  obtain ⟨g, e, hg, oc⟩ := o
  exact ⟨g, e, hg, h.oc oc (by omega)⟩
theorem Ew.lm {w0 wS w : World} {S gk : Nat} {k : Ce} (h : Ew w0 wS w S gk k) {b n c gz : Nat} {A : Option Addr} {ps : List Slot} {xss : List (List UInt8)} (o : LM wS b A n c ps xss gz) (hb : gk < b) : LM w b A n c ps xss gz := by
  have hz : gz < S := by
    obtain ⟨ad, ea, hc⟩ := RB.addr o.last (by decide)
    cases ea
    have := World.block_lt_of_cell? wS _ (RC.cell o.last ⟨gz, 0, none⟩ rfl 0 (.int .u8 203) rfl)
    rw [h.sS] at this
    simpa [Addr.add] using this
  refine ⟨GC.out o.row h.oS fun g q => ?_, o.len, fun j p xs h1 h2 => ?_, o.inc, o.last.same fun ad ea _ => ?_, o.lz, o.ne⟩
  · obtain ⟨a, ea, rfl⟩ := q
    have := o.row.lt a ea
    rw [h.sS] at this
    rintro (e | e) <;> omega
  · obtain ⟨g, c', e, hg, oc⟩ := o.each j p xs h1 h2
    exact ⟨g, c', e, hg, h.oc oc (by omega)⟩
  · cases ea
    exact h.sm hz (by have := o.lz; simp only; omega)
set_option maxRecDepth 100000 in
set_option maxHeartbeats 16000000 in
theorem BranchOwns_walk (level : Int) (A : Option Addr) (n c : Nat) (vs : List Value) (l : List (List UInt8)) (B : Option Addr) (m d : Nat) (ks : List (Int × Int)) (w : World) (_hz : -9223372036854775808 ≤ level ∧ level ≤ 9223372036854775807) (h : RM w A n c vs l) (hk : RK w B m d ks) (tb : Tb w.heap.size w) :
    Calls Tryz.prog 6 #[.int .i64 level, .slice A n c, .slice B m d] w fun e w' => e = .returned (.bool true) ∧ Below w.heap.size w w' := by
  have FW := fun W q => few_calls A n c vs l B m d W q
  obtain ⟨f, hf⟩ : ∃ f, fewS l m = f := ⟨_, rfl⟩
  rw [hf] at FW
  have HF := hideIt hf
  have HTB := hideIt tb
  have HARG := hideIt (show RM w A n c vs l ∧ RK w B m d ks from ⟨h, hk⟩)
  clear hf tb
  go_enter Tryz.func6, Tryz.ntmps6
  go_upto_region 2 with (go_at_call 43; refine (first_calls _).mono ?_; rintro en w1 ⟨rfl, b1⟩)
  have h1 := h.below b1
  have hk1 := hk.below b1
  by_cases hn : 60 < n
  · have t1 : decide ((60 : Int) < (n : Int)) = true := decide_eq_true (by omega)
    clear FW
    go_wp2
    go_ret
    exact ⟨rfl, b1⟩
  have t1 : decide ((60 : Int) < (n : Int)) = false := decide_eq_false (by omega)
  cases f
  · go_wp2_with (go_at_call 44; refine (FW _ h1).mono ?_; rintro en wx ⟨rfl, rfl⟩)
    go_ret
    exact ⟨rfl, b1⟩
  have ff := few_few HF.out h.len
  have hm2 := (few_of HF.out).2.1
  go_upto_region 4 with (go_at_call 44; refine (FW _ h1).mono ?_; rintro en wx ⟨rfl, rfl⟩)
  clear FW h hk t1
  have EN := refEncode_calls level A n c vs l B m d ks w1 h1 ff hk1
  by_cases hw : wrongS level l ks = 0
  · have IB := hideIt (show IsBody (bodyB level l ks) level l ks from ⟨hw, rfl⟩)
    have eB : encB level l ks = (bodyB level l ks, 0) := if_pos hw
    have E2 := fun (A' : Option Addr) (c' : Nat) (vs' : List Value) (B' : Option Addr) (d' : Nat) (W : World) (q : RM W A' n c' vs' l) (q' : RK W B' m d' ks) => Encode_calls level A' n c' vs' l B' m d' ks W q ff q'
    unfold EncOut at EN
    rw [eB] at EN E2
    clear eB hw
    have hbl : (bodyB level l ks).length = 4092 := bodyB_length (ok_of IB.out.1)
    generalize bodyB level l ks = body at EN IB E2 hbl
    go_upto_region 5 with (go_at_call 45; (with_reducible refine EN.mono ?_); rintro en w2 ⟨A8, n8, rfl, g8, x2⟩)
    have b2 := b1.trans (x2.mono b1.size)
    have y1 := b1.size
    have h2 := h1.below x2
    have hk2 := hk1.below x2
    clear EN x2 b1 h1 hk1
    go_upto_region 7 with fail
    have x3 := below1 w2 bookO
    have B3 := Bk.new w2
    have z3 : w2.heap.size + 1 ≤ (w2.alloc bookO).heap.size := by simp
    have b3 := b2.trans (x3.mono b2.size)
    have hgk := b2.size
    have h3 := h2.below x3
    have hk3 := hk2.below x3
    have g8b := g8.below x3
    go_upto_region 8 with (refine wp_book rfl ?_)
    change Code.wp _ _ _ _ (w2.alloc bookO)
    generalize w2.alloc bookO = w3 at *
    generalize w2.heap.size = gk at *
    clear x3 b2 w2 h2 hk2 g8
    go_upto_region 9 with (go_at_call 46; (with_reducible refine (lent_calls _ _ _ _ _ _ h3 ff).mono ?_); rintro en w4 ⟨A11, c11, ps11, gz, rfl, lm, x4⟩)
    replace B3 := B3.below x4
    have b4 := b3.trans (x4.mono b3.size)
    have hk4 := hk3.below x4
    have y4 := x4.size
    have g8c := g8b.below x4
    clear x4 b3 h3 hk3 g8b
    go_upto_region 10 with (go_at_call 47; (with_reducible refine (lentKids_calls _ _ _ _ _ hk4 (by omega)).mono ?_); rintro en w5 ⟨A12, c12, rfl, lk, x5⟩)
    have b5 := b4.trans (x5.mono b4.size)
    have lm5 := lm.below x5
    have g85 := g8c.below x5
    have B5 := B3.below x5
    have hgk5 := B5.lt
    have l8 : body.length = n8 := (GB.read g85).len
    obtain ⟨S, hS⟩ : ∃ S, w5.heap.size = S := ⟨_, rfl⟩
    have ST : Ew w w5 w5 S gk Ce.no := ⟨B5, Ke.no _ _, by omega, hgk, hS, b5, Out.refl _ _, HTB.out.below (Nat.le_refl _) b5, (fun xs h => by cases h), (fun xs h => by cases h), (fun xs h => by cases h)⟩
    have HM : Hid (gk < w3.heap.size ∧ LM w5 w3.heap.size A11 n c11 ps11 l gz) := hideIt ⟨by omega, lm5⟩
    have HKs : Hid (gk < w4.heap.size ∧ LK w5 w4.heap.size A12 m c12 ks) := hideIt ⟨by omega, lk⟩
    have H8 : Hid (GB w5 w1.heap.size A8 n8 n8 body) := hideIt g85
    have HB5 : Hid (∃ bs, Bk w5 gk bs) := hideIt ⟨_, B5⟩
    clear lm lk lm5 g85 g8c B3 B5 b4 x5 hk4 hgk5 z3 y4 HTB b5 hS
    go_upto_region 11 with fail
    go_loopw [13] (fun ii wr => ∃ (i : Nat) (k : Ce), i ≤ 2 ∧ ii = .int .i64 (i : Int) ∧ Hid (k.mb ≤ 100 * i ∧ k.mi ≤ i ∧ k.ml ≤ i) ∧ Ew w w5 wr S gk k)
      (fun ii _ => 2 - (intOf ii).toNat)
    case atStart => exact ⟨0, Ce.no, by omega, rfl, hideIt ⟨Nat.le_refl _, Nat.le_refl _, Nat.le_refl _⟩, ST⟩
    case round =>
      clear ST
      obtain ⟨i, k, hi, rfl, HK, st⟩ := hrel
      by_cases hi2 : i < 2
      · have i1 : (i : Int) < 2 := by omega
        have lmr := (st.lm HM.out.2 HM.out.1).read
        have lkr := (st.lk HKs.out.2 HKs.out.1).read
        go_upto_region 14 with (go_at_call 48; (with_reducible refine (E2 _ _ _ _ _ _ lmr lkr).mono ?_); rintro en w6 ⟨A14, n14, rfl, g14, x6⟩)
        have l14 : body.length = n14 := (GB.read g14).len
        have B14 := hideIt (show ∀ a, A14 = some a → wr.heap.size ≤ a.block ∧ a.block < w6.heap.size from fun a ha => ⟨(GB.lt g14 a ha).2, (GB.lt g14 a ha).1⟩)
        have LTR := hideIt (show (∀ p ∈ k.r.ps, ∀ a, p.1 = some a → a.block < wr.heap.size) ∧ (∀ p ∈ k.t.ps, ∀ a, p.1 = some a → a.block < wr.heap.size) ∧ (∀ p ∈ k.a.ps, ∀ a, p.1 = some a → a.block < wr.heap.size) ∧ (∀ g, AtB k.r.A g ∨ AtB k.s.A g → g < wr.heap.size) from ⟨fun p hp a ha => (st.kc.kb.ls.lt p hp a ha).1, fun p hp a ha => (st.kc.kl.kp.ls.lt p hp a ha).1, fun p hp a ha => (st.kc.ki.ls.lt p hp a ha).1, fun g q => by rcases q with ⟨a, ea, rfl⟩ | ⟨a, ea, rfl⟩; exact (st.kc.kb.ls.row.lt a ea).1; exact (st.kc.kb.lw.row.lt a ea).1⟩)
        have g14' := GC.lower g14 st.zs
        have st6 := st.below x6
        have y6 := x6.size
        obtain ⟨bs5, hb5⟩ := HB5.out
        have r8 : RB w6 A8 n8 n8 body := GB.read (st6.gc hb5 H8.out (by decide))
        clear lmr lkr x6 st g14
        go_upto_region 15 with (go_at_call 22; (with_reducible refine (Bytes_calls _ _ _ _ _ r8 (by omega)).mono ?_); rintro en w7 ⟨g16, c16, rfl, s16, o16, x7⟩)
        have AW7 := hideIt (st6.away s16)
        have st7 := st6.below x7
        have z16 := Nat.le_trans st6.zs s16
        have lt16 := o16.lt
        have g147 := GB.below g14' x7
        have y7 := x7.size
        have r16 := o16.read
        clear x7 st6 r8 g14'
        go_upto_region 16 with (go_at_call 49; (with_reducible refine (Decode_calls _ _ _ _ _ r16).mono ?_); intro en w8 q; obtain ⟨A18, n18, c18, ps18, A19, n19, c19, rfl, om, gk9, x8⟩ := q.yes IB.out; clear q)
        have st8 := st7.below x8
        have OB18 := hideIt (show (∀ g, AtB A18 g → w7.heap.size ≤ g ∧ g < w8.heap.size) ∧ (∀ p ∈ ps18, ∀ a, p.1 = some a → w7.heap.size ≤ a.block) ∧ (∀ a, A19 = some a → w7.heap.size ≤ a.block) from ⟨fun g q => by obtain ⟨a, ea, rfl⟩ := q; exact ⟨(om.row.lt a ea).2, (om.row.lt a ea).1⟩, OM.base1 om, fun a ha => (GC.lt gk9 a ha).2⟩)
        have G16 : GC w8 S 5 1 (some ⟨g16, 0, none⟩) n8 c16 (u8s body) := GC.of (o16.below x8) z16
        have g148 := GB.below g147 x8
        have r14 := GB.read g148
        have r88 : RB w8 A8 n8 n8 body := GB.read (st8.gc hb5 H8.out (by decide))
        have omr := om.read
        have hAr := HARG.out.1.below st8.bb
        have hKr := HARG.out.2.below st8.bb
        have ln18 : n = n18 := by have h1 := om.n; have h2 := om.len; have h3 := HARG.out.1.len; omega
        have ln19 : m = n19 := by have h1 := (GK.read gk9).len; have h3 := HARG.out.2.len; omega
        subst ln18 ln19
        go_upto_region 17 with (first
          | (go_at_call 50; (with_reducible refine (SameKids_calls _ _ _ _ _ _ _ _ _ kk1 kk2 true (by simp)).mono ?_); rintro en _ ⟨rfl, j2, rfl⟩)
          | (go_at_call 32; go_loud ((with_reducible refine (SameByteLists_calls _ _ _ _ _ _ _ _ _ _ _ omr hAr true (by simp)).mono ?_); rintro en _ ⟨rfl, j, rfl⟩; have kk1 := RK.drew_ (GK.read gk9) j; have kk2 := RK.drew_ hKr j))
          | (go_at_call 12; (with_reducible refine (SameBytes_calls _ _ _ _ _ _ _ _ _ r14 r88 true (by simp)).mono ?_); rintro en wx ⟨rfl, rfl⟩))
        have x9 := below_drewN (Below.refl w8.heap.size w8) (j + j2)
        have st9 := st8.below x9
        have om9 := (om.below x9).lower (Nat.le_trans z16 (Nat.le_of_lt lt16))
        have gk10 := GC.lower (GC.below gk9 x9) (Nat.le_trans z16 (Nat.le_of_lt lt16))
        have G169 := GC.below G16 x9
        have g149 := GB.below g148 x9
        have y9 := x9.size
        have y8 := x8.size
        clear r14 r88 omr hAr hKr kk1 kk2 x9 x8 st8 st7 om gk9 G16 g148 g147 r16 o16
        generalize w8.drewN (j + j2) = w9 at *
        go_upto_region 19 with (go_at_call 51; refine (num_calls _ _).mono ?_; rintro en wx ⟨rfl, rfl⟩)
        have hk := HK.out
        have BY := Bytes_v gk S k.mb k.cells k.r k.s k.xss A14 n14 n14 body w9 st9.bk rfl rfl st9.kc.kb g149 (fun p hp a b ha hb e => by have h1 := LTR.out.1 p hp a ha; have h2 := (B14.out b hb).1; omega) (by omega) (by omega) st9.zs
        go_upto_region 20 with (go_at_call 19; go_loud ((with_reducible refine BY.mono ?_); intro en w10 q; obtain ⟨⟨v10, rfl⟩, q⟩ := q))
        have om10 := om9.apartV st9.kc.kb st9.bk (KeptV.out q) (fun g z => ⟨fun y => by have h1 := (OB18.out.1 g z).1; have h2 := LTR.out.2.2.2 g (Or.inl y); omega, fun y => by have h1 := (OB18.out.1 g z).1; have h2 := LTR.out.2.2.2 g (Or.inr y); omega⟩)
        obtain ⟨k10, st10, ou10, e1, e2, e3, p1, p2, p3, aw, yr, ys⟩ := st9.bytes (by omega) q
        have AW10 := hideIt (aw g16 AW7.out (by omega) (fun a ha e => by have := (B14.out a ha).2; omega))
        have gk11 := st9.keepGC ou10 gk10 (by decide) (by decide) (by decide) (by decide)
        have G1610 := st9.keepGC ou10 G169 (by decide) (by decide) (by decide) (by decide)
        have hA10 := hideIt (show ∀ g, AtB A18 g → ¬ AtB k10.r.A g ∧ ¬ AtB k10.s.A g from fun g z => by
          have h1 := OB18.out.1 g z
          refine ⟨fun y => ?_, fun y => ?_⟩
          · rcases yr g y with y | y
            · have h2 := LTR.out.2.2.2 g (Or.inl y); omega
            · omega
          · rcases ys g y with y | y
            · have h2 := LTR.out.2.2.2 g (Or.inr y); omega
            · omega)
        have hne10 := hideIt (show ∀ p ∈ k10.r.ps, ∀ q ∈ ps18, ∀ a b, p.1 = some a → q.1 = some b → a.block ≠ b.block from fun p hp q hq a b ha hb e => by
          have h2 := OB18.out.2.1 q hq b hb
          rw [p1] at hp
          rcases List.mem_append.1 hp with z | z
          · have h1 := LTR.out.1 p z a ha; omega
          · rw [List.mem_singleton] at z; subst z; have h1 := (B14.out a ha).2; omega)
        have hnt10 := hideIt (show ∀ p ∈ k10.t.ps, ∀ a b, p.1 = some a → A18 = some b → a.block ≠ b.block from fun p hp a b ha hb e => by
          rw [p3] at hp
          have h1 := LTR.out.2.1 p hp a ha; have h2 := (OB18.out.1 b.block ⟨b, hb, rfl⟩).1; omega)
        have HK10 := hideIt (show k10.mb ≤ 100 * i + 1 ∧ k10.mi ≤ i ∧ k10.ml ≤ i by omega)
        have lt10 := Nat.lt_of_lt_of_le lt16 (Nat.le_trans y8 (Nat.le_trans y9 ou10.size))
        clear BY q ou10 e1 e2 e3 p1 p3 aw yr ys gk10 G169 om9 st9 hk HK AW7
        have hk := HK10.out
        have BL := ByteLists_v gk S k10.mb k10.ml k10.cells k10.r k10.s k10.t k10.u k10.xss k10.pss k10.qss k10.xsss A18 n c18 ps18 l w10 st10.bk rfl rfl rfl rfl st10.kc.kb st10.kc.kl st10.kc.dj om10 hA10.out hne10.out hnt10.out (by omega) ff.s (by omega) (by omega) st10.zs
        go_upto_region 21 with (go_at_call 34; (with_reducible refine BL.mono ?_); intro en w11 q; obtain ⟨⟨v11, rfl⟩, q⟩ := q)
        obtain ⟨k11, st11, ou11, e1, e2, e3, p4, aw⟩ := st10.lists ff.s (by rw [om10.n]; omega) q
        have AW11 := hideIt (aw g16 AW10.out lt10 (fun p hp a ha e => by have := OB18.out.2.1 p hp a ha; omega))
        have gk12 := st10.keepGC ou11 gk11 (by decide) (by decide) (by decide) (by decide)
        have G1611 := st10.keepGC ou11 G1610 (by decide) (by decide) (by decide) (by decide)
        have HK11 := hideIt (show k11.mb ≤ 100 * i + 61 ∧ k11.mi ≤ i ∧ k11.ml ≤ i + 1 by omega)
        have hne11 := hideIt (show ∀ p ∈ k11.a.ps, ∀ a b, p.1 = some a → A19 = some b → a.block ≠ b.block from fun p hp a b ha hb e => by
          rw [p4, p2] at hp
          have h1 := LTR.out.2.2.1 p hp a ha; have h2 := OB18.out.2.2 b hb; omega)
        clear BL q ou11 e1 e2 e3 p4 p2 aw gk11 G1610 om10 st10 hk HK10 AW10 hA10 hne10 hnt10
        have hk := HK11.out
        have KY := Kids_v gk S k11.mi k11.cells k11.a k11.b k11.iss A19 m c19 ks w11 st11.bk rfl rfl st11.kc.ki gk12 hne11.out (by omega) (by omega) st11.zs
        go_upto_region 22 with (go_at_call 52; (with_reducible refine KY.mono ?_); intro en w12 q; obtain ⟨⟨v12, rfl⟩, q⟩ := q)
        obtain ⟨k12, st12, ou12, e1, e2, e3, aw⟩ := st11.kids (by have := HARG.out.2.len; omega) q
        have AW12 := hideIt (aw g16 AW11.out)
        have G1612 := st11.keepGC ou12 G1611 (by decide) (by decide) (by decide) (by decide)
        have HK12 := hideIt (show k12.mb ≤ 100 * (i + 1) ∧ k12.mi ≤ i + 1 ∧ k12.ml ≤ i + 1 by omega)
        have O12 : ∃ cs, OC w12 5 1 g16 n8 c16 cs := by
          rcases G1612.oc with ⟨e0, _⟩ | ⟨g', e0, _, o'⟩
          · cases e0
          · cases e0; exact ⟨_, o'⟩
        clear KY q ou12 e1 e2 e3 aw gk12 G1611 G1612 st11 hk HK11 AW11 hne11 LTR B14 OB18
        obtain ⟨cs0, o12⟩ := O12
        go_upto_region 23 with fail
        go_loopw [22] (fun jj wk => ∃ (q : Nat) (cs : List Value), q ≤ n8 ∧ jj = .int .i64 (q : Int) ∧ Ew w w5 wk S gk k12 ∧ OC wk 5 1 g16 n8 c16 cs)
          (fun jj _ => n8 - (intOf jj).toNat)
        case atStart => exact ⟨0, cs0, by omega, rfl, st12, o12⟩
        case round =>
          clear st12 o12
          obtain ⟨q, cs, hq, rfl, st, o⟩ := hrel
          by_cases hql : q < n8
          · have q1 : (q : Int) < (n8 : Int) := by omega
            have fr := OC.free o q
            obtain ⟨u0, hu0⟩ : ∃ u0, cs[q]? = some u0 := ⟨_, List.getElem?_eq_getElem (by have := o.1; omega)⟩
            have cj := OC.cell o q u0 hu0
            have SP := hideIt (st.put (q := q) (v := .int .u8 238) o AW12.out z16)
            have OP := OC.set o q (.int .u8 238)
            clear st hu0
            go_wp2
            go_roundw
            case rel => exact ⟨q + 1, _, by omega, by go_num, SP.out, OP⟩
            case measure => simp [intOf]; omega
          · obtain rfl : q = n8 := by omega
            go_wp2
            go_roundw
            case rel => exact ⟨i + 1, k12, by omega, by go_num, HK12, st⟩
            case measure => simp [intOf]; omega
      · obtain rfl : i = 2 := by omega
        have hk := HK.out
        have FI := Finish_D (B := w.heap.size) (gk := gk) S k.mb k.mi k.ml k.r k.s k.a k.b k.t k.u k.xss k.iss k.pss k.qss k.xsss w5 wr st.bk st.kc st.tb st.oS st.bb.size st.s0 st.g0 st.zs (by omega) (by omega) (by omega) st.l1 st.l2 st.l3
        have HB0 := hideIt (show Below w.heap.size w w5 ∧ w5.heap.size = S ∧ w.heap.size ≤ gk ∧ w.heap.size ≤ S from ⟨st.b0, st.sS, st.g0, st.s0⟩)
        clear st
        go_upto_region 27 with (go_at_call 20; (with_reducible refine FI.mono ?_); rintro en w6 ⟨rfl, ou⟩)
        have LM6 := LM.ofS ou HB0.out.2.1 HM.out.2 HM.out.1
        have LK6 := LK.ofS ou HB0.out.2.1 HKs.out.2 HKs.out.1
        have b6 : Below w.heap.size w w6 := HB0.out.1.trans (ou.below HB0.out.1.size fun g q => by
          rcases q with rfl | q
          · exact HB0.out.2.2.1
          · exact Nat.le_trans HB0.out.2.2.2 q)
        have hA6 := HARG.out.1.below b6
        have hK6 := HARG.out.2.below b6
        clear FI ou
        go_upto_region 28 with (first
          | (go_at_call 54; (with_reducible refine (stayKids_calls _ _ _ _ _ _ _ _ lk7 hk7).mono ?_); rintro en _ ⟨rfl, j2, rfl⟩)
          | (go_at_call 53; (with_reducible refine (stays_calls _ _ _ _ _ _ _ _ _ _ _ LM6 hA6 ff).mono ?_); rintro en _ ⟨rfl, j, rfl⟩; have lk7 := LK6.below (below_drewN (Below.refl w6.heap.size w6) j); have hk7 := RK.drew_ hK6 j))
        have b7 := below_drewN b6 (j + j2)
        clear LM6 LK6 b6 hA6 hK6 lk7 hk7
        generalize w6.drewN (j + j2) = w7 at *
        go_wp2_with (go_at_call 43; refine (first_calls _).mono ?_; rintro en w8 ⟨rfl, x8⟩)
        go_ret
        exact ⟨rfl, b7.trans (x8.mono b7.size)⟩
  · go_upto_region 5 with (go_at_call 45; (with_reducible refine EN.mono ?_); rintro en w2 ⟨A8, n8, rfl, g8, x2⟩)
    have e2 : (encB level l ks).2 ≠ 0 := by unfold encB; rw [if_neg hw]; exact hw
    have b2 := b1.trans (x2.mono b1.size)
    generalize (encB level l ks).2 = ec at e2
    have t3 : (ec == 0) = false := beq_eq_false_iff_ne.2 e2
    clear EN e2
    go_wp2
    go_ret
    exact ⟨rfl, b2⟩
end Go.Proofs.YtmeakhiiebeneaaGreatDoor
