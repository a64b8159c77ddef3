/- meta.Decode of any bytes; the document's Decode. -/
import Derived.Test.YtenalocpmigppaaGreatDoorMj
namespace Go.Proofs.YtenalocpmigppaaGreatDoor
open Go.RowKit

def decV (xs : List UInt8) : Value := headV (decOk xs) (numAt xs 4 8 : Nat) (numAt xs 12 4 : Nat) (numAt xs 16 4 : Nat) (numAt xs 20 1 : Nat) (numAt xs 21 8 : Nat) (numAt xs 29 4 : Nat) (numAt xs 33 4 : Nat)
def decC (xs : List UInt8) : Int := codeV (decOk xs)
theorem dec_no {xs : List UInt8} (h : decOk xs = false) : decV xs = zeroHead ∧ decC xs = 70 := by unfold decV decC headV codeV; rw [h]; exact ⟨rfl, rfl⟩
theorem wrap_small {x : Nat} (h : x < 4294967296) : IntKind.i64.wrap (x : Int) = (x : Int) := by rw [IntKind.wrap_i64]; omega
theorem numAt_lt4 (xs : List UInt8) (p : Nat) : numAt xs p 4 < 4294967296 := numAt_lt xs p 4
theorem numAt_lt1 (xs : List UInt8) (p : Nat) : numAt xs p 1 < 4294967296 := Nat.lt_of_lt_of_le (numAt_lt xs p 1) (by decide)
theorem numAt_lt8 (xs : List UInt8) (p : Nat) : numAt xs p 8 < 18446744073709551616 := numAt_lt xs p 8

theorem Decode_any (A : Option Addr) (n c : Nat) (xs : List UInt8) (w : World) (hx : RB w A n c xs) (hM : Marks w) :
    Calls Tryz.prog 35 #[.slice A n c] w fun en w' => en = .returned (.tuple #[decV xs, .int .i64 (decC xs)]) ∧ Below w.heap.size w w' := by
  have hl := hx.len
  by_cases hn : n = 4092
  · subst hn
    obtain ⟨ad, rfl, hcell⟩ := hx.addr (by omega)
    have hc := RC.le hx
    obtain ⟨a, b, d, f, h4⟩ := list4 (xs.take 4) (by rw [List.length_take]; omega)
    obtain ⟨a', b', d', f', h4'⟩ := list4 (xs.drop 4088) (by rw [List.length_drop]; omega)
    have g0 : ∀ (j : Nat) (u : UInt8), [a, b, d, f][j]? = some u → xs[j]? = some u := by
      intro j u hu
      rw [← h4, List.getElem?_take] at hu
      split at hu
      · exact hu
      · cases hu
    have g1 : ∀ (j : Nat) (u : UInt8), [a', b', d', f'][j]? = some u → xs[4088 + j]? = some u := by
      intro j u hu
      rwa [← h4', List.getElem?_drop] at hu
    have cell : ∀ (j : Nat) (u : UInt8), xs[j]? = some u → w.cell? (ad.add j) = some (.int .u8 (u.toNat : Int)) := by
      intro j u hu
      obtain ⟨hj, rfl⟩ := List.getElem?_eq_some_iff.1 hu
      exact hcell j hj
    have adj : ∀ j : Nat, 0 < j → ad.add j = ⟨ad.block, ad.off + j, none⟩ := fun j hj => by unfold Addr.add; rw [if_neg (by omega)]
    have q : Marked w ad a b d f a' b' d' f' :=
      ⟨by have := cell 0 a (g0 0 a rfl); unfold Addr.add at this; rwa [if_pos rfl] at this, by rw [← adj 1 (by omega)]; exact cell 1 b (g0 1 b rfl), by rw [← adj 2 (by omega)]; exact cell 2 d (g0 2 d rfl), by rw [← adj 3 (by omega)]; exact cell 3 f (g0 3 f rfl),
       by rw [← adj (4088 + 0) (by omega)]; exact cell _ a' (g1 0 a' rfl), by rw [← adj (4088 + 1) (by omega)]; exact cell _ b' (g1 1 b' rfl), by rw [← adj (4088 + 2) (by omega)]; exact cell _ d' (g1 2 d' rfl), by rw [← adj (4088 + 3) (by omega)]; exact cell _ f' (g1 3 f' rfl)⟩
    have lt : ad.block < w.heap.size := hx.block_lt (by decide)
    cases hb : decide (a.toNat = 5 ∧ b.toNat = 99 ∧ d.toNat = 111 ∧ f.toNat = 112) with
    | false =>
      have no : decOk xs = false := by
        rw [← Bool.not_eq_true]; intro hk
        have e := decOk_begin hk
        rw [h4] at e
        rw [decide_eq_false_iff_not] at hb
        apply hb
        simp only [List.cons.injEq] at e
        obtain ⟨rfl, rfl, rfl, rfl, _⟩ := e
        decide
      rw [(dec_no no).1, (dec_no no).2]
      exact Decode_begin ad c w a b d f a' b' d' f' q lt hc hM hb
    | true =>
      cases he : decide (a'.toNat = 101 ∧ b'.toNat = 110 ∧ d'.toNat = 100 ∧ f'.toNat = 46) with
      | false =>
        have no : decOk xs = false := by
          rw [← Bool.not_eq_true]; intro hk
          have e := decOk_end hk
          rw [h4'] at e
          rw [decide_eq_false_iff_not] at he
          apply he
          simp only [List.cons.injEq] at e
          obtain ⟨rfl, rfl, rfl, rfl, _⟩ := e
          decide
        rw [(dec_no no).1, (dec_no no).2]
        exact Decode_end ad c w a b d f a' b' d' f' q lt hc hM hb he
      | true =>
        have w8 := numAt_lt8 xs 4
        have w8' := numAt_lt8 xs 21
        have l1 := numAt_lt4 xs 12
        have N : Nums xs (numAt xs 4 8) (numAt xs 12 4) (numAt xs 16 4) (numAt xs 20 1) (numAt xs 21 8) (numAt xs 29 4) (numAt xs 33 4) (IntKind.i64.wrap (numAt xs 4 8 : Nat)) (IntKind.i64.wrap (numAt xs 21 8 : Nat)) :=
          ⟨hideIt rfl, hideIt rfl, hideIt rfl, hideIt rfl, hideIt rfl, hideIt rfl, hideIt rfl, rfl, rfl, wrap_small (numAt_lt4 _ _), wrap_small (numAt_lt4 _ _), wrap_small (numAt_lt1 _ _), wrap_small (numAt_lt4 _ _), wrap_small (numAt_lt4 _ _), by unfold I64; omega⟩
        have mw := mayB_wrap (numAt xs 4 8) (numAt xs 21 8) (numAt xs 12 4 : Nat) (numAt xs 16 4 : Nat) (numAt xs 20 1 : Nat) (numAt xs 29 4 : Nat) (numAt xs 33 4 : Nat) w8 w8'
        refine (Decode_main ad c xs w a b d f a' b' d' f' q hx hM hb he _ _ _ _ _ _ _ _ _ N _ (hideIt rfl)).mono ?_
        rintro en w' ⟨rfl, x⟩
        refine ⟨?_, x⟩
        rw [mw]
        unfold decV decC decOk
        cases hm : mayB (numAt xs 4 8 : Nat) (numAt xs 12 4 : Nat) (numAt xs 16 4 : Nat) (numAt xs 20 1 : Nat) (numAt xs 21 8 : Nat) (numAt xs 29 4 : Nat) (numAt xs 33 4 : Nat)
        · rfl
        · have bd := mayB_bounds hm
          have e1 : IntKind.i64.wrap ((numAt xs 4 8 : Nat) : Int) = (numAt xs 4 8 : Nat) := by rw [IntKind.wrap_i64]; omega
          have e2 : IntKind.i64.wrap ((numAt xs 21 8 : Nat) : Int) = (numAt xs 21 8 : Nat) := by rw [IntKind.wrap_i64]; omega
          rw [e1, e2, Int.toNat_natCast, Int.toNat_natCast]
  · have no : decOk xs = false := by
      rw [← Bool.not_eq_true]; intro hk
      have := decOk_length hk
      omega
    rw [(dec_no no).1, (dec_no no).2]
    exact Decode_len A n c w hn

end Go.Proofs.YtenalocpmigppaaGreatDoor
