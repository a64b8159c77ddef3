/- meta.Decode of any bytes; the document's Decode. -/
import Derived.Test.YtgajlippppebpaaDoorMj
namespace Go.Proofs.YtgajlippppebpaaDoor
open Go.RowKit

def decV (xs : List UInt8) : Value := headV (decOk xs) (numAt xs 4 8 : Nat) (numAt xs 12 4 : Nat) (numAt xs 16 4 : Nat) (numAt xs 20 1 : Nat) (numAt xs 21 8 : Nat) (numAt xs 29 4 : Nat) (numAt xs 33 4 : Nat)
def decC (xs : List UInt8) : Int := codeV (decOk xs)
theorem dec_no {xs : List UInt8} (h : decOk xs = false) : decV xs = zeroHead ∧ decC xs = 70 := by unfold decV decC headV codeV; rw [h]; exact ⟨rfl, rfl⟩
theorem wrap_small {x : Nat} (h : x < 4294967296) : IntKind.i64.wrap (x : Int) = (x : Int) := by rw [IntKind.wrap_i64]; omega
theorem numAt_lt4 (xs : List UInt8) (p : Nat) : numAt xs p 4 < 4294967296 := numAt_lt xs p 4
theorem numAt_lt1 (xs : List UInt8) (p : Nat) : numAt xs p 1 < 4294967296 := Nat.lt_of_lt_of_le (numAt_lt xs p 1) (by decide)
theorem numAt_lt8 (xs : List UInt8) (p : Nat) : numAt xs p 8 < 18446744073709551616 := numAt_lt xs p 8

theorem Decode_any (A : Option Addr) (n c : Nat) (xs : List UInt8) (w : World) (hx : RB w A n c xs) (hM : Marks w) :
    Calls Tryd.prog 19 #[.slice A n c] w fun en w' => en = .returned (.tuple #[decV xs, .int .i64 (decC xs)]) ∧ Below w.heap.size w w' := by
  have hl := hx.len
  by_cases hn : n = 4092
  · subst hn
    obtain ⟨ad, rfl, hcell⟩ := hx.addr (by omega)
    have hc := RC.le hx
    obtain ⟨a, b, d, f, h4⟩ := list4 (xs.take 4) (by rw [List.length_take]; omega)
    obtain ⟨a', b', d', f', h4'⟩ := list4 (xs.drop 4088) (by rw [List.length_drop]; omega)
    have g0 : ∀ (j : Nat) (u : UInt8), [a, b, d, f][j]? = some u → xs[j]? = some u := by
      intro j u hu
      rw [← h4, List.getElem?_take] at hu
      split at hu
      · exact hu
      · cases hu
    have g1 : ∀ (j : Nat) (u : UInt8), [a', b', d', f'][j]? = some u → xs[4088 + j]? = some u := by
      intro j u hu
      rwa [← h4', List.getElem?_drop] at hu
    have cell : ∀ (j : Nat) (u : UInt8), xs[j]? = some u → w.cell? (ad.add j) = some (.int .u8 (u.toNat : Int)) := by
      intro j u hu
      obtain ⟨hj, rfl⟩ := List.getElem?_eq_some_iff.1 hu
      exact hcell j hj
    have adj : ∀ j : Nat, 0 < j → ad.add j = ⟨ad.block, ad.off + j, none⟩ := fun j hj => by unfold Addr.add; rw [if_neg (by omega)]
    have q : Marked w ad a b d f a' b' d' f' :=
      ⟨by have := cell 0 a (g0 0 a rfl); unfold Addr.add at this; rwa [if_pos rfl] at this, by rw [← adj 1 (by omega)]; exact cell 1 b (g0 1 b rfl), by rw [← adj 2 (by omega)]; exact cell 2 d (g0 2 d rfl), by rw [← adj 3 (by omega)]; exact cell 3 f (g0 3 f rfl),
       by rw [← adj (4088 + 0) (by omega)]; exact cell _ a' (g1 0 a' rfl), by rw [← adj (4088 + 1) (by omega)]; exact cell _ b' (g1 1 b' rfl), by rw [← adj (4088 + 2) (by omega)]; exact cell _ d' (g1 2 d' rfl), by rw [← adj (4088 + 3) (by omega)]; exact cell _ f' (g1 3 f' rfl)⟩
    have lt : ad.block < w.heap.size := hx.block_lt (by decide)
    cases hb : decide (a.toNat = 5 ∧ b.toNat = 99 ∧ d.toNat = 111 ∧ f.toNat = 112) with
    | false =>
      have no : decOk xs = false := by
        rw [← Bool.not_eq_true]; intro hk
        have e := decOk_begin hk
        rw [h4] at e
        rw [decide_eq_false_iff_not] at hb
        apply hb
        simp only [List.cons.injEq] at e
        obtain ⟨rfl, rfl, rfl, rfl, _⟩ := e
        decide
      rw [(dec_no no).1, (dec_no no).2]
      exact Decode_begin ad c w a b d f a' b' d' f' q lt hc hM hb
    | true =>
      cases he : decide (a'.toNat = 101 ∧ b'.toNat = 110 ∧ d'.toNat = 100 ∧ f'.toNat = 46) with
      | false =>
        have no : decOk xs = false := by
          rw [← Bool.not_eq_true]; intro hk
          have e := decOk_end hk
          rw [h4'] at e
          rw [decide_eq_false_iff_not] at he
          apply he
          simp only [List.cons.injEq] at e
          obtain ⟨rfl, rfl, rfl, rfl, _⟩ := e
          decide
        rw [(dec_no no).1, (dec_no no).2]
        exact Decode_end ad c w a b d f a' b' d' f' q lt hc hM hb he
      | true =>
        have w8 := numAt_lt8 xs 4
        have w8' := numAt_lt8 xs 21
        have l1 := numAt_lt4 xs 12
        have N : Nums xs (numAt xs 4 8) (numAt xs 12 4) (numAt xs 16 4) (numAt xs 20 1) (numAt xs 21 8) (numAt xs 29 4) (numAt xs 33 4) (IntKind.i64.wrap (numAt xs 4 8 : Nat)) (IntKind.i64.wrap (numAt xs 21 8 : Nat)) :=
          ⟨hideIt rfl, hideIt rfl, hideIt rfl, hideIt rfl, hideIt rfl, hideIt rfl, hideIt rfl, rfl, rfl, wrap_small (numAt_lt4 _ _), wrap_small (numAt_lt4 _ _), wrap_small (numAt_lt1 _ _), wrap_small (numAt_lt4 _ _), wrap_small (numAt_lt4 _ _), by unfold I64; omega⟩
        have mw := mayB_wrap (numAt xs 4 8) (numAt xs 21 8) (numAt xs 12 4 : Nat) (numAt xs 16 4 : Nat) (numAt xs 20 1 : Nat) (numAt xs 29 4 : Nat) (numAt xs 33 4 : Nat) w8 w8'
        refine (Decode_main ad c xs w a b d f a' b' d' f' q hx hM hb he _ _ _ _ _ _ _ _ _ N _ (hideIt rfl)).mono ?_
        rintro en w' ⟨rfl, x⟩
        refine ⟨?_, x⟩
        rw [mw]
        unfold decV decC decOk
        cases hm : mayB (numAt xs 4 8 : Nat) (numAt xs 12 4 : Nat) (numAt xs 16 4 : Nat) (numAt xs 20 1 : Nat) (numAt xs 21 8 : Nat) (numAt xs 29 4 : Nat) (numAt xs 33 4 : Nat)
        · rfl
        · have bd := mayB_bounds hm
          have e1 : IntKind.i64.wrap ((numAt xs 4 8 : Nat) : Int) = (numAt xs 4 8 : Nat) := by rw [IntKind.wrap_i64]; omega
          have e2 : IntKind.i64.wrap ((numAt xs 21 8 : Nat) : Int) = (numAt xs 21 8 : Nat) := by rw [IntKind.wrap_i64]; omega
          rw [e1, e2, Int.toNat_natCast, Int.toNat_natCast]
  · have no : decOk xs = false := by
      rw [← Bool.not_eq_true]; intro hk
      have := decOk_length hk
      omega
    rw [(dec_no no).1, (dec_no no).2]
    exact Decode_len A n c w hn

theorem Num_at (g : Nat) (xs : List UInt8) (p q W V : Nat) (w : World) (h : Rd w g xs p 0) (HL : Hid (xs.length = 4092)) (hp : q ≤ 4092) (hq : p + W = q) (hW : W ≤ 8) (HV : Hid (numAt xs p W = V)) :
    Calls Tryd.prog 40 #[.pointer (some ⟨g, 0, none⟩), .int .i64 (W : Int)] w fun e w' => e = .returned (.int .u64 (V : Int)) ∧ Rd w' g xs q 0 ∧ w.grownBy w' (some g) := by
  subst hq
  have := Num_ok g xs p W w h (by rw [HL.out]; omega) hW
  have e := HV.out
  unfold numAt at e
  rw [e] at this
  exact this

set_option maxRecDepth 100000 in
set_option maxHeartbeats 4000000 in
theorem refDecode_len (A : Option Addr) (n c : Nat) (w : World) (hn : n ≠ 4092) :
    Calls Tryd.prog 27 #[.slice A n c] w fun en w' => en = .returned (.tuple #[zeroHead, .int .i64 70]) ∧ Below w.heap.size w w' := by
  have h1 : ((n : Int) != 4092) = true := by rw [bne_iff_ne]; omega
  go_enter Tryd.func27, Tryd.ntmps27
  go_wp2
  refine ret_head (g := w.heap.size) (v := 0) (n := 0) (r := 0) (h := 0) (k := 0) (f := 0) (e := 0) ?_ rfl rfl rfl rfl ⟨rfl, ?_⟩
  · first | exact HC.new w 0 0 0 0 0 0 0 | exact (HC.new w 0 0 0 0 0 0 0).put7 0 0 0 0 0 0 0
  · first | exact below1 w _ | exact (below1 w _).grown (put7_grown _ w.heap.size 0 0 0 0 0 0 0) (by simp) (by simp)

set_option maxRecDepth 100000 in
set_option maxHeartbeats 4000000 in
theorem refDecode_main (A : Option Addr) (c : Nat) (xs : List UInt8) (w : World) (hx : RB w A 4092 c xs)
    (V N R H K F E : Nat) (VI KI : Int) (nv : Hid (numAt xs 4 8 = V)) (nn : Hid (numAt xs 12 4 = N)) (nr : Hid (numAt xs 16 4 = R)) (nh : Hid (numAt xs 20 1 = H)) (nk : Hid (numAt xs 21 8 = K)) (nf : Hid (numAt xs 29 4 = F)) (ne : Hid (numAt xs 33 4 = E))
    (vi : Hid (numB7 V = VI)) (ki : Hid (numB7 K = KI)) (wn : IntKind.i64.wrap (N : Int) = N) (wr : IntKind.i64.wrap (R : Int) = R) (wh : IntKind.i64.wrap (H : Int) = H) (wf : IntKind.i64.wrap (F : Int) = F) (we : IntKind.i64.wrap (E : Int) = E)
    (lv : Hid (V < 18446744073709551616)) (lk : Hid (K < 18446744073709551616))
    (q : Bool) (hqq : Hid ((mayB VI N R H KI F E && decide (bodyB VI.toNat N R H KI.toNat F E = xs)) = q)) :
    Calls Tryd.prog 27 #[.slice A 4092 c] w fun en w' => en = .returned (.tuple #[headV q VI N R H KI F E, .int .i64 (codeV q)]) ∧ Below w.heap.size w w' := by
  have HL := hideIt hx.len
  have hb0 := below1 w (.cells #[.int .i64 0, .int .i64 0, .int .i64 0, .int .i64 0, .int .i64 0, .int .i64 0, .int .i64 0] 23)
  have hC0 := HC.new w 0 0 0 0 0 0 0
  have x0 := hx.below hb0
  go_enter Tryd.func27, Tryd.ntmps27
  go_upto_region 6 with (first
    | (go_at_call 38; refine (rBytes_ok g xs 0 4 _ rd1 (by rw [HL.out]; omega) (by rw [HL.out]; omega)).mono ?_; rintro en w2 ⟨g2, c2, rfl, s2, o2, rd2, gr2⟩; have hC2 := hC1.same (Sm.of_grown gr2 hC1.lt (by simpa using ng)); have b2 := b1.grown gr2 b1.size (by simpa using gw))
    | (go_at_call 37; refine (New_calls _ _ _ _ _ x0 (by omega)).mono ?_; rintro en w1 ⟨g, rfl, s1, rd1, x1⟩; have hC1 := hC0.below x1; have b1 := hb0.trans (x1.mono hb0.size); have gw := Nat.le_trans hb0.size s1; have ng : w.heap.size ≠ g := Nat.ne_of_lt (Nat.lt_of_lt_of_le hC0.lt s1)))
  have hH3 : HC (w2.alloc (.cells #[.int .i64 0, .int .i64 0, .int .i64 0, .int .i64 0, .int .i64 0, .int .i64 0, .int .i64 0] 23)) w2.heap.size 0 0 0 0 0 0 0 := HC.new w2 0 0 0 0 0 0 0
  have x3 : Below w2.heap.size w2 (w2.alloc (.cells #[.int .i64 0, .int .i64 0, .int .i64 0, .int .i64 0, .int .i64 0, .int .i64 0, .int .i64 0] 23)) := below1 w2 _
  have hC3 := hC2.below x3
  have rd3 := rd2.below x3
  have b3 := b2.trans (x3.mono b2.size)
  have neH : w2.heap.size ≠ g := fun e => by have := rd2.lt; omega
  have neC : w2.heap.size ≠ w.heap.size := fun e => by have := hC2.lt; omega
  have gH : w.heap.size ≤ w2.heap.size := b2.size
  clear x3 hC2 hC1 hC0 rd1 rd2 gr2 b1 b2 x1 s1 s2 o2 x0 hb0
  generalize (w2.alloc (.cells #[.int .i64 0, .int .i64 0, .int .i64 0, .int .i64 0, .int .i64 0, .int .i64 0, .int .i64 0] 23)) = w3 at *
  generalize w2.heap.size = gh at *
  clear w2
  go_upto_region 7 with (first
    | (go_at_call 39; refine (number_calls V _ lv.out).mono ?_; rintro en wx ⟨rfl, rfl⟩; rw [vi.out])
    | (go_at_call 40; refine (Num_at g xs 4 12 8 V _ rd3 HL (by omega) rfl (by omega) nv).mono ?_; rintro en w4 ⟨rfl, rd4, gr4⟩; have hC4 := hC3.same (Sm.of_grown gr4 hC3.lt (by simpa using ng)); have hH4 := hH3.same (Sm.of_grown gr4 hH3.lt (by simpa using neH)); have b4 := b3.grown gr4 b3.size (by simpa using gw); have ca := (OC.cell hH4 0 _ rfl : w4.cell? ⟨gh, 0, none⟩ = some (.int .i64 0)); have fa := OC.free hH4 0))
  have gx := grownBy_set w4 gh 0 (.int .i64 VI)
  have hH5 : HC (World.setCell w4 ⟨gh, 0, none⟩ (.int .i64 VI)) gh VI 0 0 0 0 0 0 := OC.set hH4 0 (.int .i64 VI)
  have hC5 := hC4.same (Sm.of_grown gx hC4.lt (by simpa using fun e => neC (Eq.symm e)))
  have rd5 := rd4.aside gx hH4 neH
  have b5 := b4.grown gx b4.size (by simpa using gH)
  clear ca fa gx hH3 hH4 hC3 hC4 rd3 rd4 gr4 b3 b4
  generalize (World.setCell w4 ⟨gh, 0, none⟩ (.int .i64 VI)) = w5 at *
  clear w4
  go_upto_region 8 with (go_at_call 40; refine (Num_at g xs 12 16 4 N _ rd5 HL (by omega) rfl (by omega) nn).mono ?_; rintro en w6 ⟨rfl, rd6, gr6⟩; have hC6 := hC5.same (Sm.of_grown gr6 hC5.lt (by simpa using ng)); have hH6 := hH5.same (Sm.of_grown gr6 hH5.lt (by simpa using neH)); have b6 := b5.grown gr6 b5.size (by simpa using gw); have ca := (OC.cell hH6 1 _ rfl : w6.cell? ⟨gh, 1, none⟩ = some (.int .i64 0)); have fa := OC.free hH6 1)
  have gx := grownBy_set w6 gh 1 (.int .i64 (N : Int))
  have hH7 : HC (World.setCell w6 ⟨gh, 1, none⟩ (.int .i64 (N : Int))) gh VI N 0 0 0 0 0 := OC.set hH6 1 (.int .i64 (N : Int))
  have hC7 := hC6.same (Sm.of_grown gx hC6.lt (by simpa using fun e => neC (Eq.symm e)))
  have rd7 := rd6.aside gx hH6 neH
  have b7 := b6.grown gx b6.size (by simpa using gH)
  clear ca fa gx hH5 hH6 hC5 hC6 rd5 rd6 gr6 b5 b6
  generalize (World.setCell w6 ⟨gh, 1, none⟩ (.int .i64 (N : Int))) = w7 at *
  clear w6
  go_upto_region 9 with (go_at_call 40; refine (Num_at g xs 16 20 4 R _ rd7 HL (by omega) rfl (by omega) nr).mono ?_; rintro en w8 ⟨rfl, rd8, gr8⟩; have hC8 := hC7.same (Sm.of_grown gr8 hC7.lt (by simpa using ng)); have hH8 := hH7.same (Sm.of_grown gr8 hH7.lt (by simpa using neH)); have b8 := b7.grown gr8 b7.size (by simpa using gw); have ca := (OC.cell hH8 2 _ rfl : w8.cell? ⟨gh, 2, none⟩ = some (.int .i64 0)); have fa := OC.free hH8 2)
  have gx := grownBy_set w8 gh 2 (.int .i64 (R : Int))
  have hH9 : HC (World.setCell w8 ⟨gh, 2, none⟩ (.int .i64 (R : Int))) gh VI N R 0 0 0 0 := OC.set hH8 2 (.int .i64 (R : Int))
  have hC9 := hC8.same (Sm.of_grown gx hC8.lt (by simpa using fun e => neC (Eq.symm e)))
  have rd9 := rd8.aside gx hH8 neH
  have b9 := b8.grown gx b8.size (by simpa using gH)
  clear ca fa gx hH7 hH8 hC7 hC8 rd7 rd8 gr8 b7 b8
  generalize (World.setCell w8 ⟨gh, 2, none⟩ (.int .i64 (R : Int))) = w9 at *
  clear w8
  go_upto_region 10 with (go_at_call 40; refine (Num_at g xs 20 21 1 H _ rd9 HL (by omega) rfl (by omega) nh).mono ?_; rintro en w10 ⟨rfl, rd10, gr10⟩; have hC10 := hC9.same (Sm.of_grown gr10 hC9.lt (by simpa using ng)); have hH10 := hH9.same (Sm.of_grown gr10 hH9.lt (by simpa using neH)); have b10 := b9.grown gr10 b9.size (by simpa using gw); have ca := (OC.cell hH10 3 _ rfl : w10.cell? ⟨gh, 3, none⟩ = some (.int .i64 0)); have fa := OC.free hH10 3)
  have gx := grownBy_set w10 gh 3 (.int .i64 (H : Int))
  have hH11 : HC (World.setCell w10 ⟨gh, 3, none⟩ (.int .i64 (H : Int))) gh VI N R H 0 0 0 := OC.set hH10 3 (.int .i64 (H : Int))
  have hC11 := hC10.same (Sm.of_grown gx hC10.lt (by simpa using fun e => neC (Eq.symm e)))
  have rd11 := rd10.aside gx hH10 neH
  have b11 := b10.grown gx b10.size (by simpa using gH)
  clear ca fa gx hH9 hH10 hC9 hC10 rd9 rd10 gr10 b9 b10
  generalize (World.setCell w10 ⟨gh, 3, none⟩ (.int .i64 (H : Int))) = w11 at *
  clear w10
  go_upto_region 11 with (first
    | (go_at_call 39; refine (number_calls K _ lk.out).mono ?_; rintro en wx ⟨rfl, rfl⟩; rw [ki.out])
    | (go_at_call 40; refine (Num_at g xs 21 29 8 K _ rd11 HL (by omega) rfl (by omega) nk).mono ?_; rintro en w12 ⟨rfl, rd12, gr12⟩; have hC12 := hC11.same (Sm.of_grown gr12 hC11.lt (by simpa using ng)); have hH12 := hH11.same (Sm.of_grown gr12 hH11.lt (by simpa using neH)); have b12 := b11.grown gr12 b11.size (by simpa using gw); have ca := (OC.cell hH12 4 _ rfl : w12.cell? ⟨gh, 4, none⟩ = some (.int .i64 0)); have fa := OC.free hH12 4))
  have gx := grownBy_set w12 gh 4 (.int .i64 KI)
  have hH13 : HC (World.setCell w12 ⟨gh, 4, none⟩ (.int .i64 KI)) gh VI N R H KI 0 0 := OC.set hH12 4 (.int .i64 KI)
  have hC13 := hC12.same (Sm.of_grown gx hC12.lt (by simpa using fun e => neC (Eq.symm e)))
  have rd13 := rd12.aside gx hH12 neH
  have b13 := b12.grown gx b12.size (by simpa using gH)
  clear ca fa gx hH11 hH12 hC11 hC12 rd11 rd12 gr12 b11 b12
  generalize (World.setCell w12 ⟨gh, 4, none⟩ (.int .i64 KI)) = w13 at *
  clear w12
  go_upto_region 12 with (go_at_call 40; refine (Num_at g xs 29 33 4 F _ rd13 HL (by omega) rfl (by omega) nf).mono ?_; rintro en w14 ⟨rfl, rd14, gr14⟩; have hC14 := hC13.same (Sm.of_grown gr14 hC13.lt (by simpa using ng)); have hH14 := hH13.same (Sm.of_grown gr14 hH13.lt (by simpa using neH)); have b14 := b13.grown gr14 b13.size (by simpa using gw); have ca := (OC.cell hH14 5 _ rfl : w14.cell? ⟨gh, 5, none⟩ = some (.int .i64 0)); have fa := OC.free hH14 5)
  have gx := grownBy_set w14 gh 5 (.int .i64 (F : Int))
  have hH15 : HC (World.setCell w14 ⟨gh, 5, none⟩ (.int .i64 (F : Int))) gh VI N R H KI F 0 := OC.set hH14 5 (.int .i64 (F : Int))
  have hC15 := hC14.same (Sm.of_grown gx hC14.lt (by simpa using fun e => neC (Eq.symm e)))
  have rd15 := rd14.aside gx hH14 neH
  have b15 := b14.grown gx b14.size (by simpa using gH)
  clear ca fa gx hH13 hH14 hC13 hC14 rd13 rd14 gr14 b13 b14
  generalize (World.setCell w14 ⟨gh, 5, none⟩ (.int .i64 (F : Int))) = w15 at *
  clear w14
  go_upto_region 13 with (go_at_call 40; refine (Num_at g xs 33 37 4 E _ rd15 HL (by omega) rfl (by omega) ne).mono ?_; rintro en w16 ⟨rfl, rd16, gr16⟩; have hC16 := hC15.same (Sm.of_grown gr16 hC15.lt (by simpa using ng)); have hH16 := hH15.same (Sm.of_grown gr16 hH15.lt (by simpa using neH)); have b16 := b15.grown gr16 b15.size (by simpa using gw); have ca := (OC.cell hH16 6 _ rfl : w16.cell? ⟨gh, 6, none⟩ = some (.int .i64 0)); have fa := OC.free hH16 6)
  have gx := grownBy_set w16 gh 6 (.int .i64 (E : Int))
  have hH17 : HC (World.setCell w16 ⟨gh, 6, none⟩ (.int .i64 (E : Int))) gh VI N R H KI F E := OC.set hH16 6 (.int .i64 (E : Int))
  have hC17 := hC16.same (Sm.of_grown gx hC16.lt (by simpa using fun e => neC (Eq.symm e)))
  have rd17 := rd16.aside gx hH16 neH
  have b17 := b16.grown gx b16.size (by simpa using gH)
  clear ca fa gx hH15 hH16 hC15 hC16 rd15 rd16 gr16 b15 b16
  generalize (World.setCell w16 ⟨gh, 6, none⟩ (.int .i64 (E : Int))) = w17 at *
  clear w16
  obtain ⟨i0, i1, i2, i3, i4, i5, i6, i7⟩ := hH17.at_
  go_upto_region 14 with (go_at_call 12; refine (refEncode_any _ _ _ _ _ _ _ _).mono ?_; rintro en w31 ⟨A1, n1, c1, rfl, ro, x31⟩)
  have hC31 := hC17.below x31
  have hH31 := hH17.below x31
  have b31 := b17.trans (x31.mono b17.size)
  have x1 := hx.below b31
  clear i0 i1 i2 i3 i4 i5 i6 i7 x31 hC17 hH17 rd17 b17 w17
  obtain ⟨i0, i1, i2, i3, i4, i5, i6, i7⟩ := hH31.at_
  have same := fun r hr => SameBytes_calls A1 A n1 c1 4092 c _ xs w31 ro x1 r hr
  have r0 := (OC.cell hC31 0 _ rfl : w31.cell? ⟨w.heap.size, 0, none⟩ = some (.int .i64 0))
  have fz0 := OC.free hC31 0
  have r1 := (OC.cell hC31 1 _ rfl : w31.cell? ⟨w.heap.size, 1, none⟩ = some (.int .i64 0))
  have fz1 := OC.free hC31 1
  have r2 := (OC.cell hC31 2 _ rfl : w31.cell? ⟨w.heap.size, 2, none⟩ = some (.int .i64 0))
  have fz2 := OC.free hC31 2
  have r3 := (OC.cell hC31 3 _ rfl : w31.cell? ⟨w.heap.size, 3, none⟩ = some (.int .i64 0))
  have fz3 := OC.free hC31 3
  have r4 := (OC.cell hC31 4 _ rfl : w31.cell? ⟨w.heap.size, 4, none⟩ = some (.int .i64 0))
  have fz4 := OC.free hC31 4
  have r5 := (OC.cell hC31 5 _ rfl : w31.cell? ⟨w.heap.size, 5, none⟩ = some (.int .i64 0))
  have fz5 := OC.free hC31 5
  have r6 := (OC.cell hC31 6 _ rfl : w31.cell? ⟨w.heap.size, 6, none⟩ = some (.int .i64 0))
  have fz6 := OC.free hC31 6
  cases hm : mayB VI N R H KI F E
  · obtain rfl : q = false := by rw [← hqq.out, hm]; rfl
    rw [show encC VI N R H KI F E = 71 by unfold encC; rw [hm]; rfl] at *
    clear hm ro x1
    go_wp2_with (go_at_call 13; refine (same _ rfl).mono ?_; rintro en w5 ⟨rfl, rfl⟩)
    refine ret_head (g := w.heap.size) (v := 0) (n := 0) (r := 0) (h := 0) (k := 0) (f := 0) (e := 0) (hC31.put7 0 0 0 0 0 0 0) rfl rfl rfl rfl ⟨rfl, ?_⟩
    exact b31.grown (put7_grown _ w.heap.size 0 0 0 0 0 0 0) b31.size (by simp)
  · have hq2 : decide (bodyB VI.toNat N R H KI.toNat F E = xs) = q := by rw [← hqq.out, hm]; rfl
    rw [show encC VI N R H KI F E = 0 by unfold encC; rw [hm]; rfl] at *
    rw [show encR VI N R H KI F E = bodyB VI.toNat N R H KI.toNat F E by unfold encR; rw [hm]; rfl] at same
    have same2 := same q hq2.symm
    clear hm hq2 hqq ro x1 same
    cases q
    · go_wp2_with (go_at_call 13; refine same2.mono ?_; rintro en w5 ⟨rfl, rfl⟩)
      refine ret_head (g := w.heap.size) (v := 0) (n := 0) (r := 0) (h := 0) (k := 0) (f := 0) (e := 0) (hC31.put7 0 0 0 0 0 0 0) rfl rfl rfl rfl ⟨rfl, ?_⟩
      exact b31.grown (put7_grown _ w.heap.size 0 0 0 0 0 0 0) b31.size (by simp)
    · go_wp2_with (go_at_call 13; refine same2.mono ?_; rintro en w5 ⟨rfl, rfl⟩)
      refine ret_head (g := w.heap.size) (v := VI) (n := N) (r := R) (h := H) (k := KI) (f := F) (e := E) (hC31.put7 VI N R H KI F E) rfl rfl rfl rfl ⟨rfl, ?_⟩
      exact b31.grown (put7_grown _ w.heap.size VI N R H KI F E) b31.size (by simp)

theorem refDecode_any (A : Option Addr) (n c : Nat) (xs : List UInt8) (w : World) (hx : RB w A n c xs) :
    Calls Tryd.prog 27 #[.slice A n c] w fun en w' => en = .returned (.tuple #[decV xs, .int .i64 (decC xs)]) ∧ Below w.heap.size w w' := by
  have hl := hx.len
  by_cases hn : n = 4092
  · subst hn
    have mw := mayB_clamp (numAt xs 4 8) (numAt xs 21 8) (numAt xs 12 4 : Nat) (numAt xs 16 4 : Nat) (numAt xs 20 1 : Nat) (numAt xs 29 4 : Nat) (numAt xs 33 4 : Nat)
    refine (refDecode_main A c xs w hx _ _ _ _ _ _ _ _ _ (hideIt rfl) (hideIt rfl) (hideIt rfl) (hideIt rfl) (hideIt rfl) (hideIt rfl) (hideIt rfl) (hideIt rfl) (hideIt rfl) (wrap_small (numAt_lt4 _ _)) (wrap_small (numAt_lt4 _ _)) (wrap_small (numAt_lt1 _ _)) (wrap_small (numAt_lt4 _ _)) (wrap_small (numAt_lt4 _ _)) (hideIt (numAt_lt8 _ _)) (hideIt (numAt_lt8 _ _)) _ (hideIt rfl)).mono ?_
    rintro en w' ⟨rfl, x⟩
    refine ⟨?_, x⟩
    rw [mw]
    unfold decV decC decOk
    cases hm : mayB (numAt xs 4 8 : Nat) (numAt xs 12 4 : Nat) (numAt xs 16 4 : Nat) (numAt xs 20 1 : Nat) (numAt xs 21 8 : Nat) (numAt xs 29 4 : Nat) (numAt xs 33 4 : Nat)
    · rfl
    · have bd := mayB_bounds hm
      have e1 : numB7 (numAt xs 4 8) = (numAt xs 4 8 : Nat) := by unfold numB7; rw [if_neg (by omega)]
      have e2 : numB7 (numAt xs 21 8) = (numAt xs 21 8 : Nat) := by unfold numB7; rw [if_neg (by omega)]
      rw [e1, e2, Int.toNat_natCast, Int.toNat_natCast]
  · have no : decOk xs = false := by
      rw [← Bool.not_eq_true]; intro hk
      have := decOk_length hk
      omega
    rw [(dec_no no).1, (dec_no no).2]
    exact refDecode_len A n c w hn
end Go.Proofs.YtgajlippppebpaaDoor
