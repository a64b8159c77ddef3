/- coppicekept.Book.Items. -/
import Derived.Test.YtmeakhiiebeneaaGreatDoorJk
import Derived.Test.YtmeakhiiebeneaaGreatDoorJIg
import Derived.Test.YtmeakhiiebeneaaGreatDoorGa
namespace Go.Proofs.YtmeakhiiebeneaaGreatDoor
open Go.RowKit

/-- from world w0 on some lists of bytes were kept. -/
structure Bv (w0 w : World) (gk base m : Nat) (r s r' s' : Row) (bs : List Value) (xss : List (List UInt8)) (add : List Slot) : Prop where
  bk : Bk w gk ((bs.set 2 (r'.v m)).set 3 (s'.v m))
  kp : Kp w base 5 1 40 m r' s' (xss.map u8s) (xss.map u8s)
  ps : r'.ps = r.ps ++ add
  n1 : ∀ g, AtB r'.A g → AtB r.A g ∨ w0.heap.size ≤ g
  n2 : ∀ g, AtB s'.A g → AtB s.A g ∨ w0.heap.size ≤ g
  ou : Out (Rws gk r.A s.A) w0 w
theorem Bv.start {w : World} {gk base m : Nat} {r s : Row} {bs : List Value} {xss : List (List UInt8)} (hk : Bk w gk bs) (e2 : bs[2]? = some (r.v m)) (e3 : bs[3]? = some (s.v m)) (h : Kp w base 5 1 40 m r s (xss.map u8s) (xss.map u8s)) : Bv w w gk base m r s r s bs xss [] :=
  ⟨by rw [set_self e2, set_self e3]; exact hk, h, by simp, fun _ q => Or.inl q, fun _ q => Or.inl q, Out.refl _ _⟩
theorem Bv.step {w0 w w' : World} {gk base m n c : Nat} {r s r1 s1 : Row} {bs bs1 : List Value} {xss : List (List UInt8)} {add : List Slot} {A : Option Addr} {xs : List UInt8} (h : Bv w0 w gk base m r s r1 s1 bs xss add) (hb : bs1 = (bs.set 2 (r1.v m)).set 3 (s1.v m)) (k : KeptV gk base 5 1 40 m 2 r1 s1 (xss.map u8s) (xss.map u8s) A n c (u8s xs) (u8s xs) bs1 w w') :
    ∃ r2 s2, Bv w0 w' gk base (m + 1) r s r2 s2 bs (xss ++ [xs]) (add ++ [(A, n, c)]) := by
  obtain ⟨r2, s2, p, bk, kp, e1, e2, _, k1, k2, ou⟩ := k
  refine ⟨r2, s2, ?_, ?_, ?_, ?_, ?_, ?_⟩
  · rw [hb] at bk
    have : ((((bs.set 2 (r1.v m)).set 3 (s1.v m)).set 2 (r2.v (m + 1))).set (2 + 1) (s2.v (m + 1))) = (bs.set 2 (r2.v (m + 1))).set 3 (s2.v (m + 1)) := by
      rw [List.set_comm _ _ (show 3 ≠ 2 by decide), List.set_set, List.set_set]
    rw [this] at bk
    exact bk
  · have e : ∀ {l : List (List UInt8)}, l.map u8s ++ [u8s xs] = (l ++ [xs]).map u8s := fun {l} => by rw [List.map_append]; rfl
    rw [e] at kp
    exact kp
  · rw [e1, h.ps, List.append_assoc]
  · intro g q
    rcases k1 g q with z | z
    · exact h.n1 g z
    · exact Or.inr (Nat.le_trans h.ou.size z)
  · intro g q
    rcases k2 g q with z | z
    · exact h.n2 g z
    · exact Or.inr (Nat.le_trans h.ou.size z)
  · exact h.ou.trans ou fun g q => by
      rcases q with q | q | q
      · exact Or.inl (Or.inl q)
      · exact (h.n1 g q).imp (fun z => Or.inr (Or.inl z)) id
      · exact (h.n2 g q).imp (fun z => Or.inr (Or.inr z)) id
/-- lists of items, and their copies. -/
structure Ki (w : World) (base m : Nat) (t u : Row) (tss uss : List (List Cel)) : Prop where
  kp : Kp w base 133 4 89 m t u (tss.map itvs) (uss.map itvs)
  e1 : ∀ zs ∈ tss, ∀ z ∈ zs, GB w base z.p.1 z.p.2.1 z.p.2.2 z.x.k ∧ GB w base z.q.1 z.q.2.1 z.q.2.2 z.x.v
  e2 : ∀ zs ∈ uss, ∀ z ∈ zs, GB w base z.p.1 z.p.2.1 z.p.2.2 z.x.k ∧ GB w base z.q.1 z.q.2.1 z.q.2.2 z.x.v
  eq : tss.map its = uss.map its
theorem Ki.no (w : World) (base : Nat) : Ki w base 0 Row.no Row.no [] [] := ⟨Kp.no _ _ _ _ _, (fun zs h => by cases h), (fun zs h => by cases h), rfl⟩
theorem Ki.below {w w' : World} {base m : Nat} {t u : Row} {tss uss : List (List Cel)} (h : Ki w base m t u tss uss) (b : Below w.heap.size w w') : Ki w' base m t u tss uss :=
  ⟨h.kp.below b, fun zs hz z q => ⟨(h.e1 zs hz z q).1.below b, (h.e1 zs hz z q).2.below b⟩, fun zs hz z q => ⟨(h.e2 zs hz z q).1.below b, (h.e2 zs hz z q).2.below b⟩, h.eq⟩
/-- where rows of lists of bytes are written. -/
theorem Ki.apart {w w' : World} {gk base base' m m' : Nat} {t u r s : Row} {tss uss : List (List Cel)} {css dss : List (List Value)} {bs : List Value} (h : Ki w base m t u tss uss) (k : Kp w base' 5 1 40 m' r s css dss) (bk : Bk w gk bs) (ou : Out (Rws gk r.A s.A) w w') : Ki w' base m t u tss uss :=
  ⟨h.kp.apart k bk (by decide) (by decide) (by decide) (by decide) ou, fun zs hz z q => ⟨k.keepGC bk ou (h.e1 zs hz z q).1 (by decide) (by decide), k.keepGC bk ou (h.e1 zs hz z q).2 (by decide) (by decide)⟩, fun zs hz z q => ⟨k.keepGC bk ou (h.e2 zs hz z q).1 (by decide) (by decide), k.keepGC bk ou (h.e2 zs hz z q).2 (by decide) (by decide)⟩, h.eq⟩
/-- items of the call's own stay where rows are written. -/
theorem OT.apartK {w w' : World} {gk base b0 e sz rt m n c : Nat} {r s : Row} {css dss : List (List Value)} {bs : List Value} {A : Option Addr} {zs : List Cel} (h : OT w b0 A n c zs) (k : Kp w base e sz rt m r s css dss) (bk : Bk w gk bs) (ou : Out (Rws gk r.A s.A) w w') (n1 : rt ≠ 133) (n2 : rt ≠ 5) : OT w' b0 A n c zs :=
  ⟨k.keepGC bk ou h.row (by decide) n1, fun z hz => ⟨k.keepGC bk ou (h.each z hz).1 (by decide) n2, k.keepGC bk ou (h.each z hz).2 (by decide) n2⟩, h.inc⟩
def kvs (zs : List Cel) : List (List UInt8) := zs.flatMap fun z => [z.x.k, z.x.v]
theorem kvs_snoc (zs : List Cel) (z : Cel) : kvs (zs ++ [z]) = kvs zs ++ [z.x.k] ++ [z.x.v] := by simp [kvs]
theorem slots_snoc (zs : List Cel) (z : Cel) : slots (zs ++ [z]) = slots zs ++ [z.p] ++ [z.q] := by simp [slots]
theorem slots_split {zs : List Cel} {i : Nat} {z : Cel} (hz : zs[i]? = some z) : slots zs = slots (zs.take i) ++ ([z.p, z.q] ++ slots (zs.drop (i + 1))) := by
  have h : zs = zs.take i ++ ([z] ++ zs.drop (i + 1)) := by
    obtain ⟨hi, rfl⟩ := List.getElem?_eq_some_iff.1 hz
    simp
  calc slots zs = slots (zs.take i ++ ([z] ++ zs.drop (i + 1))) := congrArg slots h
    _ = _ := by rw [slots_append, slots_append]; rfl
theorem OT.before {w : World} {base n c i : Nat} {A : Option Addr} {zs : List Cel} {z : Cel} (h : OT w base A n c zs) (hz : zs[i]? = some z) : (∀ s ∈ slots (zs.take i), Before s z.p ∧ Before s z.q) ∧ Before z.p z.q := by
  have hi := h.inc
  rw [slots_split hz, List.pairwise_append, List.pairwise_append] at hi
  obtain ⟨_, ⟨h2, _, _⟩, h3⟩ := hi
  refine ⟨fun s hs => ⟨h3 s hs _ (by simp), h3 s hs _ (by simp)⟩, ?_⟩
  rw [List.pairwise_cons] at h2
  exact h2.1 _ (by simp)
theorem OT.cells {w : World} {base n c i : Nat} {A : Option Addr} {zs : List Cel} {z : Cel} (h : OT w base A n c zs) (hz : zs[i]? = some z) (hi : i < n) : ∃ ad : Addr, A = some ad ∧ w.cell? (ad.add (i * 4)) = some (.slice z.p.1 z.p.2.1 z.p.2.2) ∧ w.cell? ⟨(ad.add (i * 4)).block, (ad.add (i * 4)).off + 1, none⟩ = some (.slice z.q.1 z.q.2.1 z.q.2.2) := by
  obtain ⟨ad, e, hc⟩ := RC.drop0 (GC.read h.row) (by omega)
  obtain ⟨q1, q2, _, _⟩ := itvs_get zs i z hz
  exact ⟨ad, e, hc _ _ q1, by rw [← add_more]; exact hc _ _ q2⟩
theorem KeptV.out {gk base e sz rt m F : Nat} {r s : Row} {css dss : List (List Value)} {A : Option Addr} {n c : Nat} {cs ds bs : List Value} {w w' : World} (k : KeptV gk base e sz rt m F r s css dss A n c cs ds bs w w') : Out (Rws gk r.A s.A) w w' := by
  obtain ⟨_, _, _, _, _, _, _, _, _, _, ou⟩ := k
  exact ou
theorem Bv.e2 {w0 w : World} {gk base m : Nat} {r s r' s' : Row} {bs : List Value} {xss : List (List UInt8)} {add : List Slot} (_h : Bv w0 w gk base m r s r' s' bs xss add) (h2 : 2 < bs.length) : ((bs.set 2 (r'.v m)).set 3 (s'.v m))[2]? = some (r'.v m) := by
  rw [List.getElem?_set_ne (by decide), List.getElem?_set_self h2]
theorem Bv.e3 {w0 w : World} {gk base m : Nat} {r s r' s' : Row} {bs : List Value} {xss : List (List UInt8)} {add : List Slot} (_h : Bv w0 w gk base m r s r' s' bs xss add) (h3 : 3 < bs.length) : ((bs.set 2 (r'.v m)).set 3 (s'.v m))[3]? = some (s'.v m) := by
  rw [List.getElem?_set_self (by rw [List.length_set]; exact h3)]
theorem Bv.eN {w0 w : World} {gk base m : Nat} {r s r' s' : Row} {bs : List Value} {xss : List (List UInt8)} {add : List Slot} (_h : Bv w0 w gk base m r s r' s' bs xss add) (F : Nat) (v : Value) (hF : bs[F]? = some v) (h2 : 2 ≠ F) (h3 : 3 ≠ F) : ((bs.set 2 (r'.v m)).set 3 (s'.v m))[F]? = some v := by
  rw [List.getElem?_set_ne h3, List.getElem?_set_ne h2, hF]
theorem GC.apart1 {w w' : World} {gk base e sz rt n c b e' sz' n' c' : Nat} {A A' : Option Addr} {ps : List Slot} {css : List (List Value)} {bs cs : List Value} (o : GC w b e' sz' A' n' c' cs) (k : LS w base e sz rt A n c ps css) (bk : Bk w gk bs) (ou : Out (fun g => g = gk ∨ AtB A g) w w') (n1 : 39 ≠ e') (n2 : rt ≠ e') : GC w' b e' sz' A' n' c' cs :=
  o.out ou fun g q => by
    rintro (rfl | z)
    · exact n1 (ty_ne ⟨_, _, _, bk⟩ (o.atb q))
    · exact n2 (ty_ne (k.row.atb z) (o.atb q))
theorem Kp.apart1 {w w' : World} {gk base base' e sz rt m n c e' sz' rt' : Nat} {r s : Row} {A : Option Addr} {ps : List Slot} {css dss xss : List (List Value)} {bs : List Value} (h : Kp w base e sz rt m r s css dss) (k : LS w base' e' sz' rt' A n c ps xss) (bk : Bk w gk bs) (n1 : 39 ≠ e) (n2 : 39 ≠ rt) (d1 : rt' ≠ e) (d2 : rt' ≠ rt) (ou : Out (fun g => g = gk ∨ AtB A g) w w') : Kp w' base e sz rt m r s css dss := by
  have key : ∀ {n c : Nat} {A : Option Addr} {ps : List Slot} {xss : List (List Value)}, LS w base e sz rt A n c ps xss → LS w' base e sz rt A n c ps xss := fun l =>
    ⟨l.row.apart1 k bk ou n2 d2, l.len, fun j p cs h1 h2 => (l.each j p cs h1 h2).apart1 k bk ou n1 d1, l.inc⟩
  exact ⟨key h.ls, key h.lw, h.ap⟩
theorem OT.apart1 {w w' : World} {gk base b0 e sz rt m n c : Nat} {A A' : Option Addr} {ps : List Slot} {xss : List (List Value)} {bs : List Value} {zs : List Cel} {c' : Nat} (h : OT w b0 A n c zs) (k : LS w base e sz rt A' m c' ps xss) (bk : Bk w gk bs) (ou : Out (fun g => g = gk ∨ AtB A' g) w w') (n1 : rt ≠ 133) (n2 : rt ≠ 5) : OT w' b0 A n c zs :=
  ⟨h.row.apart1 k bk ou (by decide) n1, fun z hz => ⟨GC.apart1 (h.each z hz).1 k bk ou (by decide) n2, GC.apart1 (h.each z hz).2 k bk ou (by decide) n2⟩, h.inc⟩
theorem Out.mono {D D' : Nat → Prop} {w w' : World} (h : Out D w w') (hd : ∀ g, D g → D' g) : Out D' w w' := ⟨h.os, h.tape, h.output, h.size, fun k hk hn => h.block k hk fun q => hn (hd k q)⟩
def EvI (w : World) (base : Nat) (tss : List (List Cel)) : Prop := ∀ zs ∈ tss, ∀ z ∈ zs, GB w base z.p.1 z.p.2.1 z.p.2.2 z.x.k ∧ GB w base z.q.1 z.q.2.1 z.q.2.2 z.x.v
theorem EvI.next {w w1 w' : World} {gk base base' e sz rt m c : Nat} {A : Option Addr} {ps : List Slot} {xss : List (List Value)} {bs : List Value} {tss : List (List Cel)} (h : EvI w base tss) (b : Below w.heap.size w w1) (k : LS w1 base' e sz rt A m c ps xss) (bk : Bk w1 gk bs) (ou : Out (fun g => g = gk ∨ AtB A g) w1 w') (n2 : rt ≠ 5) : EvI w' base tss :=
  fun zs hz z q => ⟨GC.apart1 (GC.below (h zs hz z q).1 b) k bk ou (by decide) n2, GC.apart1 (GC.below (h zs hz z q).2 b) k bk ou (by decide) n2⟩
/-- what Items leaves. -/
def KeptI (gk base m mt : Nat) (r s t u : Row) (xss : List (List UInt8)) (tss uss : List (List Cel)) (A : Option Addr) (n c : Nat) (zs : List Cel) (bs : List Value) (w w' : World) : Prop :=
  ∃ (r' s' t' u' : Row) (zs' : List Cel), Bk w' gk ((((bs.set 2 (r'.v (m + 2 * n))).set 3 (s'.v (m + 2 * n))).set 20 (t'.v (mt + 1))).set 21 (u'.v (mt + 1))) ∧ Kp w' base 5 1 40 (m + 2 * n) r' s' ((xss ++ kvs zs).map u8s) ((xss ++ kvs zs).map u8s) ∧ Ki w' base (mt + 1) t' u' (tss ++ [zs]) (uss ++ [zs']) ∧ r'.ps = r.ps ++ slots zs ∧ t'.ps = t.ps ++ [(A, n, c)] ∧
    (∀ g, AtB r'.A g → AtB r.A g ∨ w.heap.size ≤ g) ∧ (∀ g, AtB s'.A g → AtB s.A g ∨ w.heap.size ≤ g) ∧ Out (fun g => Rws gk r.A s.A g ∨ AtB t.A g ∨ AtB u.A g) w w'
set_option maxRecDepth 100000 in
set_option maxHeartbeats 8000000 in
theorem Items_v (gk base m mt : Nat) (bs : List Value) (r s t u : Row) (xss : List (List UInt8)) (tss uss : List (List Cel)) (A : Option Addr) (n c : Nat) (zs : List Cel) (w : World) (hk : Bk w gk bs) (e2 : bs[2]? = some (r.v m)) (e3 : bs[3]? = some (s.v m)) (e20 : bs[20]? = some (t.v mt)) (e21 : bs[21]? = some (u.v mt)) (hB : Kp w base 5 1 40 m r s (xss.map u8s) (xss.map u8s)) (hI : Ki w base mt t u tss uss) (o : OT w base A n c zs) (hne : ∀ p ∈ r.ps, ∀ q ∈ slots zs, ∀ a b, p.1 = some a → q.1 = some b → a.block ≠ b.block) (hnt : ∀ p ∈ t.ps, ∀ a b, p.1 = some a → A = some b → a.block ≠ b.block) (hn : n ≤ 2000) (hs : ShT (its zs)) (hm : m + 2 * n ≤ 800000) (hmt : mt ≤ 800000) (hb : base ≤ w.heap.size) :
    Calls Tryz.prog 60 #[.pointer (some ⟨gk, 0, none⟩), .slice A n c] w fun e w' => (∃ v, e = .returned v) ∧ KeptI gk base m mt r s t u xss tss uss A n c zs bs w w' := by
  have HE20 := hideIt e20
  have HE21 := hideIt e21
  have HNE := hideIt hne
  have HNT := hideIt hnt
  have HS := hideIt hs
  have HN := hideIt o.n
  have hL2 : 2 < bs.length := (List.getElem?_eq_some_iff.1 e2).1
  have hL3 : 3 < bs.length := (List.getElem?_eq_some_iff.1 e3).1
  have HL2 := hideIt hL2
  have HL3 := hideIt hL3
  have B0 := Bv.start hk e2 e3 hB
  clear hne hnt hs e20 e21 e2 e3 hL2 hL3 hk hB
  go_enter Tryz.func60, Tryz.ntmps60
  go_upto_region 1 with fail
  go_loopw [4] (fun ii wr => ∃ (i : Nat) (r' s' : Row), i ≤ n ∧ ii = .int .i64 (i : Int) ∧ Bv w wr gk base (m + 2 * i) r s r' s' bs (xss ++ kvs (zs.take i)) (slots (zs.take i)) ∧ Ki wr base mt t u tss uss ∧ OT wr base A n c zs)
    (fun ii _ => n - (intOf ii).toNat)
  case atStart => exact ⟨0, r, s, by omega, rfl, by simpa [kvs, slots] using B0, hI, o⟩
  case round =>
    clear B0 hI o
    obtain ⟨i, r', s', hi, rfl, B, KI, ot⟩ := hrel
    by_cases hlt : i < n
    · obtain ⟨z, hz⟩ : ∃ z, zs[i]? = some z := ⟨_, List.getElem?_eq_getElem (by rw [HN.out]; exact hlt)⟩
      obtain ⟨ad, rfl, i0, i1⟩ := ot.cells hz hlt
      have j1 : (i : Int) < (n : Int) := by omega
      have st : zs.take (i + 1) = zs.take i ++ [z] := by rw [List.take_add_one, hz]; rfl
      have ST := hideIt st
      have hmem := List.mem_of_getElem? hz
      have hsz := HS.out.s z.x (by unfold its; exact List.mem_map.2 ⟨z, hmem, rfl⟩)
      have G1 := (ot.each z hmem).1
      have l1 : z.p.2.1 ≤ 5000 := by have := (GB.read G1).len; omega
      have l3 : z.q.2.1 ≤ 5000 := by have := (GB.read (ot.each z hmem).2).len; omega
      have HBF := hideIt (ot.before hz)
      have HMEM := hideIt hmem
      have HZ := hideIt hz
      have NE1 : Hid (∀ p ∈ r'.ps, ∀ a b, p.1 = some a → z.p.1 = some b → a.block ≠ b.block) := hideIt fun p hp a b ha hb' => by
        rw [B.ps] at hp
        rcases List.mem_append.1 hp with q | q
        · exact HNE.out p q _ (slots_mem HMEM.out).1 a b ha hb'
        · exact (HBF.out.1 p q).1 a b ha hb'
      have zb : base ≤ wr.heap.size := Nat.le_trans hb B.ou.size
      have BY := Bytes_v gk base (m + 2 * i) _ r' s' _ z.p.1 z.p.2.1 z.p.2.2 z.x.k wr B.bk (B.e2 HL2.out) (B.e3 HL3.out) B.kp G1 NE1.out (by omega) (by omega) zb
      clear st hmem hsz hz G1
      go_upto_region 4 with (go_at_call 19; (with_reducible refine BY.mono ?_); intro en w1 q; obtain ⟨⟨v1, rfl⟩, k1⟩ := q)
      have KI1 := KI.apart B.kp B.bk k1.out
      have ot1 := ot.apartK B.kp B.bk k1.out (by decide) (by decide)
      obtain ⟨r1, s1, B1⟩ := B.step rfl k1
      clear BY k1 B KI ot i0 i1 zb NE1
      obtain ⟨ad', e', i0, i1⟩ := ot1.cells HZ.out hlt
      cases e'
      have G3 := (ot1.each z HMEM.out).2
      have NE3 : Hid (∀ p ∈ r1.ps, ∀ a b, p.1 = some a → z.q.1 = some b → a.block ≠ b.block) := hideIt fun p hp a b ha hb' => by
        rw [B1.ps] at hp
        rcases List.mem_append.1 hp with q | q
        · exact HNE.out p q _ (slots_mem HMEM.out).2 a b ha hb'
        · rcases List.mem_append.1 q with q | q
          · exact (HBF.out.1 p q).2 a b ha hb'
          · rw [List.mem_singleton] at q
            subst q
            exact HBF.out.2 a b ha hb'
      have zb : base ≤ w1.heap.size := Nat.le_trans hb B1.ou.size
      have BY := Bytes_v gk base (m + 2 * i + 1) _ r1 s1 _ z.q.1 z.q.2.1 z.q.2.2 z.x.v w1 B1.bk (B1.e2 HL2.out) (B1.e3 HL3.out) B1.kp G3 NE3.out (by omega) (by omega) zb
      clear G3
      go_wp2_with (go_at_call 19; (with_reducible refine BY.mono ?_); intro en w2 q; obtain ⟨⟨v2, rfl⟩, k2⟩ := q)
      have KI2 := KI1.apart B1.kp B1.bk k2.out
      have ot2 := ot1.apartK B1.kp B1.bk k2.out (by decide) (by decide)
      obtain ⟨r2, s2, B2⟩ := B1.step rfl k2
      clear BY k2 B1 KI1 ot1 i0 i1 zb NE3
      rw [show m + 2 * i + 1 + 1 = m + 2 * (i + 1) by omega, List.append_assoc, List.append_assoc, List.append_assoc, ← List.append_assoc (kvs _), ← kvs_snoc, ← List.append_assoc, ← slots_snoc, ← ST.out] at B2
      go_roundw
      case rel => exact ⟨i + 1, r2, s2, by omega, by go_num, B2, KI2, ot2⟩
      case measure => simp [intOf]; omega
    · obtain rfl : i = n := by omega
      rw [List.take_of_length_le (by rw [HN.out]; exact Nat.le_refl _)] at B
      have zb : base ≤ wr.heap.size := Nat.le_trans hb B.ou.size
      have E20 := hideIt (B.eN 20 _ HE20.out (by decide) (by decide))
      have E21 := hideIt (B.eN 21 _ HE21.out (by decide) (by decide))
      have BKH := hideIt B.bk
      have hk := B.bk
      have HB0 := hideIt B
      clear B
      generalize hbs5 : (bs.set 2 (r'.v (m + 2 * i))).set 3 (s'.v (m + 2 * i)) = bs5 at hk E20 E21 BKH
      have HBS := hideIt hbs5
      clear hbs5
      obtain ⟨⟨ls, lw, ap⟩, ki1, ki2, kieq⟩ := KI
      have HK1 := hideIt ki1
      have HK2 := hideIt ki2
      have HKE := hideIt kieq
      have HAP := hideIt ap
      have HWL := hideIt lw.lt
      obtain ⟨At, ct, pt⟩ := t
      obtain ⟨Au, cu, pu⟩ := u
      simp only [Row.v] at *
      clear ki1 ki2 kieq ap
      have KPI0 : Hid (Kp wr base 133 4 89 mt ⟨At, ct, pt⟩ ⟨Au, cu, pu⟩ (tss.map itvs) (uss.map itvs)) := hideIt ⟨ls, lw, HAP.out⟩
      have ba := below1 wr (.cells #[.slice A i c] 89)
      have bk1 := hk.below ba
      have ls1 := ls.below ba
      have lw1 := lw.below ba
      have o1 := ot.below ba
      have R1 := svI_cell wr (A, i, c)
      have b1 := Nat.le_trans zb ba.size
      have c2 := OC.cell hk 20 _ E20.out
      have c21 := OC.cell bk1 20 _ E20.out
      have HB1 := hideIt (HB0.out.kp.below ba)
      have HK1a := hideIt (Ki.below ⟨KPI0.out, HK1.out, HK2.out, HKE.out⟩ ba)
      clear HK1 HK2 HKE
      go_upto_region 6 with (first
        | ((with_reducible refine wpIx_app rfl (.tmp 29) (.tmp 31) rfl base _ _ _ _ rfl ls1.row _ (A, i, c) rfl R1 (by omega) b1 ?_); intro g5 c5 w5 q5 Q5 o5 k5; have ZA : (wr.alloc (.cells #[.slice A i c] 89)).heap.size = wr.heap.size + 1 := (by simp); have st := row_push (F := 20) (by decide) (by decide) (by decide) bk1 ls1 o1.row HNT.out k5 o5 q5; have cc5 := OC.cell st.1 20 _ E20.out; have ff5 := OC.free st.1 20))
      obtain ⟨-, hk6, ls6, ou6⟩ := st
      have lw6 := lw1.beside ls1 (by decide) (by decide) (by decide) bk1 HAP.out ou6
      have HB6 := hideIt (HB1.out.apart (r' := ⟨At, ct, pt⟩) (s' := ⟨Au, cu, pu⟩) ⟨ls1, lw1, HAP.out⟩ bk1 (by decide) (by decide) (by decide) (by decide) ou6.rws1)
      have o6 := o1.apartK (r := ⟨At, ct, pt⟩) (s := ⟨Au, cu, pu⟩) ⟨ls1, lw1, HAP.out⟩ bk1 ou6.rws1 (by decide) (by decide)
      have ou : Out (Rws gk At Au) wr (w5.setCell ⟨gk, 20, none⟩ (.slice (some ⟨g5, 0, none⟩) (mt + 1) c5)) := (Out.of_below ba).trans ou6.rws1 (fun _ q => Or.inl q)
      have EV6 : Hid ((∀ zs ∈ tss, ∀ z ∈ zs, GB (w5.setCell ⟨gk, 20, none⟩ (.slice (some ⟨g5, 0, none⟩) (mt + 1) c5)) base z.p.1 z.p.2.1 z.p.2.2 z.x.k ∧ GB (w5.setCell ⟨gk, 20, none⟩ (.slice (some ⟨g5, 0, none⟩) (mt + 1) c5)) base z.q.1 z.q.2.1 z.q.2.2 z.x.v) ∧ (∀ zs ∈ uss, ∀ z ∈ zs, GB (w5.setCell ⟨gk, 20, none⟩ (.slice (some ⟨g5, 0, none⟩) (mt + 1) c5)) base z.p.1 z.p.2.1 z.p.2.2 z.x.k ∧ GB (w5.setCell ⟨gk, 20, none⟩ (.slice (some ⟨g5, 0, none⟩) (mt + 1) c5)) base z.q.1 z.q.2.1 z.q.2.2 z.x.v)) := by
        have K6 : Kp _ base 133 4 89 mt ⟨At, ct, pt⟩ ⟨Au, cu, pu⟩ (tss.map itvs) (uss.map itvs) := ⟨ls1, lw1, HAP.out⟩
        refine hideIt ⟨fun zs hz z q => ⟨K6.keepGC bk1 ou6.rws1 (HK1a.out.e1 zs hz z q).1 (by decide) (by decide), K6.keepGC bk1 ou6.rws1 (HK1a.out.e1 zs hz z q).2 (by decide) (by decide)⟩, fun zs hz z q => ⟨K6.keepGC bk1 ou6.rws1 (HK1a.out.e2 zs hz z q).1 (by decide) (by decide), K6.keepGC bk1 ou6.rws1 (HK1a.out.e2 zs hz z q).2 (by decide) (by decide)⟩⟩
      have HKE := hideIt HK1a.out.eq
      have APN : Hid (∀ g, AtB Au g → g5 ≠ g) := hideIt fun g hg e => by
        subst e
        have h1 : g5 < wr.heap.size := by obtain ⟨a, ea, e⟩ := hg; have := (lw.row.lt a ea).1; omega
        rcases Q5 with ⟨a, z, e2⟩ | z
        · exact HAP.out g5 ⟨a, z, e2.symm⟩ hg
        · omega
      clear HB1 HK1a ba bk1 ls1 lw1 o1 R1 c2 c21 cc5 ff5 k5 o5 ou6 hk ls lw ot
      have z6 := Nat.le_trans zb ou.size
      have HS6 : Hid ((bs5.set 20 (.slice (some ⟨g5, 0, none⟩) (mt + 1) c5))[21]? = some (.slice Au mt cu)) := hideIt (by rw [List.getElem?_set, if_neg (by decide)]; exact E21.out)
      generalize w5.setCell ⟨gk, 20, none⟩ (.slice (some ⟨g5, 0, none⟩) (mt + 1) c5) = w6 at hk6 ls6 lw6 o6 ou z6 HB6 EV6 ⊢
      have cw6 := OC.cell hk6 21 _ HS6.out
      have cw6d : w6.drew.cell? ⟨gk, 21, none⟩ = some (.slice Au mt cu) := cw6
      have bd := drew1 w6
      have od := OT.read (o6.below bd)
      have zd : base ≤ w6.drew.heap.size := z6
      clear ZA Q5
      go_region_law
        (first
          | (refine stepIx_app rfl (.tmp 39) (.tmp 42) rfl base _ _ _ _ rfl lw8.row _ (some ⟨g7, 0, none⟩, i, c7) rfl R8 (by omega) z8 ?_; intro g9 c9 w9 q9 Q9 o9 k9; have st9 := row_push (F := 21) (by decide) (by decide) (by decide) bk8 lw8 S8.row NE8.out k9 o9 q9; have cc9 := OC.cell st9.1 21 _ HS6.out; have ff9 := OC.free st9.1 21)
          | (refine step_of rfl ?_; go_simp; go_at_call 57; ((with_reducible refine (Items_calls _ _ _ _ _ _ od (by omega) HS.out).mono ?_); rintro en w7 ⟨g7, c7, zs7, rfl, o7, x7, y7⟩; have bd7 := blw_step bd y7; have cw7 := OC.cell (hk6.below bd7) 21 _ HS6.out; have ba8 := below1 w7 (.cells #[.slice (some ⟨g7, 0, none⟩) i c7] 89); have bd8 := blw_step bd7 ba8; have bk8 := hk6.below bd8; have ls8 := ls6.below bd8; have lw8 := lw6.below bd8; have S8 := (o7.lower zd).below ba8; have HI7 := hideIt x7; have R8 := svI_cell w7 (some ⟨g7, 0, none⟩, i, c7); have z8 := Nat.le_trans z6 bd8.size; have cw8 := OC.cell bk8 21 _ HS6.out; have cw8a : (w7.alloc (.cells #[.slice (some ⟨g7, 0, none⟩) i c7] 89)).cell? ⟨gk, 21, none⟩ = some (.slice Au mt cu) := cw8; have NE8 : Hid (∀ p ∈ pu, ∀ a b, p.1 = some a → (some ⟨g7, 0, none⟩ : Option Addr) = some b → a.block ≠ b.block) := hideIt (fun p hp a b ha hb' e => by cases hb'; have h1 := (HWL.out p hp a ha).1; have h2 := ou.size; have h3 : w6.heap.size ≤ g7 := (o7.row.lt ⟨g7, 0, none⟩ rfl).2; have h4 : a.block = g7 := e; omega))))
      all_goals
        obtain ⟨-, bkA, lsA, ouA⟩ := st9
        have ls9 := ls8.beside lw8 (by decide) (by decide) (by decide) bk8 (fun g q z => APN.out g q (by obtain ⟨a, ea, e⟩ := z; cases ea; exact e)) ouA
        have OU := (ou.step bd8).rws2 ouA
        have AP : Hid (∀ g, AtB (some (⟨g5, 0, none⟩ : Addr)) g → ¬ AtB (some (⟨g9, 0, none⟩ : Addr)) g) := hideIt (fun g h1 h2 => by
          obtain ⟨a, ha, ea⟩ := h1
          obtain ⟨b, hb', eb⟩ := h2
          cases ha
          cases hb'
          have e : g5 = g9 := ea.trans eb.symm
          rcases Q9 with ⟨b, z, e2⟩ | z
          · exact APN.out g9 ⟨b, z, e2.symm⟩ e
          · have := (ls8.row.lt ⟨g5, 0, none⟩ rfl).1
            have z' : (w7.alloc (.cells #[.slice (some ⟨g7, 0, none⟩) i c7] 89)).heap.size ≤ g9 := z
            simp only at this
            omega)
        have KPB := hideIt ((HB6.out.below bd8).apart1 lw8 bk8 (by decide) (by decide) (by decide) (by decide) ouA)
        have EVa := EvI.next EV6.out.1 bd8 lw8 bk8 ouA (by decide)
        have EVb := EvI.next EV6.out.2 bd8 lw8 bk8 ouA (by decide)
        have oA := (o6.below bd8).apart1 lw8 bk8 ouA (by decide) (by decide)
        have SA := S8.apart1 lw8 bk8 ouA (by decide) (by decide)
        have m1 : tss.map itvs ++ [itvs zs] = (tss ++ [zs]).map itvs := by rw [List.map_append]; rfl
        have m2 : uss.map itvs ++ [itvs zs7] = (uss ++ [zs7]).map itvs := by rw [List.map_append]; rfl
        rw [m1] at ls9
        rw [m2] at lsA
        rw [← HBS.out] at bkA
        have FIN : Hid (KeptI gk base m mt r s ⟨At, ct, pt⟩ ⟨Au, cu, pu⟩ xss tss uss A i c zs bs w _) := hideIt ⟨r', s', ⟨some ⟨g5, 0, none⟩, c5, pt ++ [(A, i, c)]⟩, ⟨some ⟨g9, 0, none⟩, c9, pu ++ [(some ⟨g7, 0, none⟩, i, c7)]⟩, zs7, bkA, KPB.out, ⟨⟨ls9, lsA, AP.out⟩, (fun ys hy => by
            rcases List.mem_append.1 hy with q | q
            · exact EVa ys q
            · rw [List.mem_singleton] at q; subst q; exact oA.each), (fun ys hy => by
            rcases List.mem_append.1 hy with q | q
            · exact EVb ys q
            · rw [List.mem_singleton] at q; subst q; exact SA.each), by rw [List.map_append, List.map_append, HKE.out]; simp only [List.map_cons, List.map_nil, HI7.out]⟩, HB0.out.ps, rfl, HB0.out.n1, HB0.out.n2, (HB0.out.ou.mono fun _ q => Or.inl q).trans OU (fun g q => by
            by_cases hg : g < w.heap.size
            · rcases q with q | q | q
              · exact Or.inl (Or.inl (Or.inl q))
              · exact Or.inl (Or.inr (Or.inl q))
              · exact Or.inl (Or.inr (Or.inr q))
            · exact Or.inr (by omega))⟩
        clear KPB EVa EVb oA SA m1 m2 lsA ls9 bkA ouA bd8 bk8 ls8 lw8 S8 R8 z8 cw8 cw8a cc9 ff9 k9 o9
        go_wp2
        go_end0
        exact ⟨⟨_, rfl⟩, FIN.out⟩
end Go.Proofs.YtmeakhiiebeneaaGreatDoor
