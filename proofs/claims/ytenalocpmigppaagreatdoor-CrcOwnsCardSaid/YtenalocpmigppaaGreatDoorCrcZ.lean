/- What Seal and Open answer, as functions of lists; the contracts of both sides in these words. -/
import Derived.Test.YtenalocpmigppaaGreatDoorCrcY
namespace Go.Proofs.YtenalocpmigppaaGreatDoor
open Go.RowKit

def sealC (xs : List UInt8) : Int := if xs.length = 4092 then 0 else 20
def sealR (xs : List UInt8) : List UInt8 := if xs.length = 4092 then xs ++ Crc.tail4 (Crc.sum xs) else []
def openC (xs : List UInt8) : Int := if xs.length = 4096 then (if xs.drop 4092 = Crc.tail4 (Crc.sum (xs.take 4092)) then 0 else 22) else 21
def openR (xs : List UInt8) : List UInt8 := if openC xs = 0 then xs.take 4092 else []

/-- TwoC results: bytes that can be read, and a number. -/
def TwoC (w : World) (xs : List UInt8) (k : Int) (e : Ending) (w' : World) : Prop := ∃ A n c, e = .returned (.tuple #[.slice A n c, .int .i64 k]) ∧ RB w' A n c xs ∧ Below w.heap.size w w'

theorem Seal_any (A : Option Addr) (n c : Nat) (xs : List UInt8) (w : World) (hx : RB w A n c xs) (hg : Tab w) :
    Calls Tryz.prog 18 #[.slice A n c] w (TwoC w (sealR xs) (sealC xs)) := by
  have hl := hx.len
  by_cases h : n = 4092
  · subst h
    refine (Seal_ok A c xs w hx hg).mono ?_
    rintro e w' ⟨g, c', rfl, _, o, b⟩
    have e1 : sealC xs = 0 := by unfold sealC; rw [if_pos hl]
    have e2 : sealR xs = xs ++ Crc.tail4 (Crc.sum xs) := by unfold sealR; rw [if_pos hl]
    rw [e1, e2]
    exact ⟨_, _, _, rfl, o.read, b⟩
  · refine (Seal_bad A n c w h).mono ?_
    rintro e w' ⟨rfl, rfl⟩
    have e1 : sealC xs = 20 := by unfold sealC; rw [if_neg (by omega)]
    have e2 : sealR xs = [] := by unfold sealR; rw [if_neg (by omega)]
    rw [e1, e2]
    exact ⟨_, _, _, rfl, RB.nil _, Below.refl _ _⟩

theorem list4 (l : List UInt8) (h : l.length = 4) : ∃ a b d f, l = [a, b, d, f] := by
  match l, h with
  | [a, b, d, f], _ => exact ⟨a, b, d, f, rfl⟩

theorem Open_any (A : Option Addr) (n c : Nat) (xs : List UInt8) (w : World) (hx : RB w A n c xs) (hg : Tab w) :
    Calls Tryz.prog 20 #[.slice A n c] w (TwoC w (openR xs) (openC xs)) := by
  have hl := hx.len
  by_cases h : n = 4096
  · subst h
    obtain ⟨ad, rfl, _⟩ := hx.addr (by omega)
    obtain ⟨a, b, d, f, h4⟩ := list4 (xs.drop 4092) (by rw [List.length_drop]; omega)
    have hsp : xs = xs.take 4092 ++ [a, b, d, f] := by rw [← h4, List.take_append_drop]
    have hx' : RB w (some ad) 4096 c (xs.take 4092 ++ [a, b, d, f]) := by rw [← hsp]; exact hx
    refine (Open_walk ad c (xs.take 4092) a b d f w hx' hg _ rfl).mono ?_
    intro e w' hp
    by_cases hd : [a, b, d, f] = Crc.tail4 (Crc.sum (xs.take 4092))
    · rw [decide_eq_true hd] at hp
      obtain ⟨g, c', rfl, _, o, bb⟩ := hp
      have e1 : openC xs = 0 := by unfold openC; rw [if_pos hl, if_pos (by rw [h4]; exact hd)]
      have e2 : openR xs = xs.take 4092 := by unfold openR; rw [if_pos e1]
      rw [e1, e2]
      exact ⟨_, _, _, rfl, o.read, bb⟩
    · rw [decide_eq_false hd] at hp
      obtain ⟨rfl, bb⟩ := hp
      have e1 : openC xs = 22 := by unfold openC; rw [if_pos hl, if_neg (by rw [h4]; exact hd)]
      have e2 : openR xs = [] := by unfold openR; rw [if_neg (by rw [e1]; decide)]
      rw [e1, e2]
      exact ⟨_, _, _, rfl, RB.nil _, bb⟩
  · refine (Open_len A n c w h).mono ?_
    rintro e w' ⟨rfl, rfl⟩
    have e1 : openC xs = 21 := by unfold openC; rw [if_neg (by omega)]
    have e2 : openR xs = [] := by unfold openR; rw [if_neg (by rw [e1]; decide)]
    rw [e1, e2]
    exact ⟨_, _, _, rfl, RB.nil _, Below.refl _ _⟩

end Go.Proofs.YtenalocpmigppaaGreatDoor
