/- What Seal and Open answer, as functions of lists; the contracts of both sides in these words. -/
import Derived.Test.YtjfecechagoepaaDoorCrcY
namespace Go.Proofs.YtjfecechagoepaaDoor
open Go.RowKit

def sealC (xs : List UInt8) : Int := if xs.length = 4092 then 0 else 20
def sealR (xs : List UInt8) : List UInt8 := if xs.length = 4092 then xs ++ Crc.tail4 (Crc.sum xs) else []
def openC (xs : List UInt8) : Int := if xs.length = 4096 then (if xs.drop 4092 = Crc.tail4 (Crc.sum (xs.take 4092)) then 0 else 22) else 21
def openR (xs : List UInt8) : List UInt8 := if openC xs = 0 then xs.take 4092 else []

/-- Two results: bytes that can be read, and a number. -/
def Two (w : World) (xs : List UInt8) (k : Int) (e : Ending) (w' : World) : Prop := ∃ A n c, e = .returned (.tuple #[.slice A n c, .int .i64 k]) ∧ RB w' A n c xs ∧ Below w.heap.size w w'

theorem Seal_any (A : Option Addr) (n c : Nat) (xs : List UInt8) (w : World) (hx : RB w A n c xs) (hg : Tab w) :
    Calls Tryd.prog 21 #[.slice A n c] w (Two w (sealR xs) (sealC xs)) := by
  have hl := hx.len
  by_cases h : n = 4092
  · subst h
    refine (Seal_ok A c xs w hx hg).mono ?_
    rintro e w' ⟨g, c', rfl, _, o, b⟩
    have e1 : sealC xs = 0 := by unfold sealC; rw [if_pos hl]
    have e2 : sealR xs = xs ++ Crc.tail4 (Crc.sum xs) := by unfold sealR; rw [if_pos hl]
    rw [e1, e2]
    exact ⟨_, _, _, rfl, o.read, b⟩
  · refine (Seal_bad A n c w h).mono ?_
    rintro e w' ⟨rfl, rfl⟩
    have e1 : sealC xs = 20 := by unfold sealC; rw [if_neg (by omega)]
    have e2 : sealR xs = [] := by unfold sealR; rw [if_neg (by omega)]
    rw [e1, e2]
    exact ⟨_, _, _, rfl, RB.nil _, Below.refl _ _⟩

theorem list4 (l : List UInt8) (h : l.length = 4) : ∃ a b d f, l = [a, b, d, f] := by
  match l, h with
  | [a, b, d, f], _ => exact ⟨a, b, d, f, rfl⟩

theorem Open_any (A : Option Addr) (n c : Nat) (xs : List UInt8) (w : World) (hx : RB w A n c xs) (hg : Tab w) :
    Calls Tryd.prog 27 #[.slice A n c] w (Two w (openR xs) (openC xs)) := by
  have hl := hx.len
  by_cases h : n = 4096
  · subst h
    obtain ⟨ad, rfl, _⟩ := hx.addr (by omega)
    obtain ⟨a, b, d, f, h4⟩ := list4 (xs.drop 4092) (by rw [List.length_drop]; omega)
    have hsp : xs = xs.take 4092 ++ [a, b, d, f] := by rw [← h4, List.take_append_drop]
    have hx' : RB w (some ad) 4096 c (xs.take 4092 ++ [a, b, d, f]) := by rw [← hsp]; exact hx
    refine (Open_walk ad c (xs.take 4092) a b d f w hx' hg _ rfl).mono ?_
    intro e w' hp
    by_cases hd : [a, b, d, f] = Crc.tail4 (Crc.sum (xs.take 4092))
    · rw [decide_eq_true hd] at hp
      obtain ⟨g, c', rfl, _, o, bb⟩ := hp
      have e1 : openC xs = 0 := by unfold openC; rw [if_pos hl, if_pos (by rw [h4]; exact hd)]
      have e2 : openR xs = xs.take 4092 := by unfold openR; rw [if_pos e1]
      rw [e1, e2]
      exact ⟨_, _, _, rfl, o.read, bb⟩
    · rw [decide_eq_false hd] at hp
      obtain ⟨rfl, bb⟩ := hp
      have e1 : openC xs = 22 := by unfold openC; rw [if_pos hl, if_neg (by rw [h4]; exact hd)]
      have e2 : openR xs = [] := by unfold openR; rw [if_neg (by rw [e1]; decide)]
      rw [e1, e2]
      exact ⟨_, _, _, rfl, RB.nil _, bb⟩
  · refine (Open_len A n c w h).mono ?_
    rintro e w' ⟨rfl, rfl⟩
    have e1 : openC xs = 21 := by unfold openC; rw [if_neg (by omega)]
    have e2 : openR xs = [] := by unfold openR; rw [if_neg (by rw [e1]; decide)]
    rw [e1, e2]
    exact ⟨_, _, _, rfl, RB.nil _, Below.refl _ _⟩

set_option maxHeartbeats 400000 in
theorem refSeal_any (A : Option Addr) (n c : Nat) (xs : List UInt8) (w : World) (hx : RB w A n c xs) :
    Calls Tryd.prog 22 #[.slice A n c] w (Two w (sealR xs) (sealC xs)) := by
  have hl := hx.len
  by_cases h : n = 4092
  · subst h
    have e1 : sealC xs = 0 := by unfold sealC; rw [if_pos hl]
    have e2 : sealR xs = xs ++ Crc.tail4 (Crc.sum xs) := by unfold sealR; rw [if_pos hl]
    rw [e1, e2]
    clear e1 e2 hl
    go_enter Tryd.func22, Tryd.ntmps22
    go_wp2_with (first
      | (go_at_call 18; refine (Bytes_calls _ _ _ xs _ hx (by omega)).mono ?_; rintro e w1 ⟨g1, c1, rfl, s1, o1, b1⟩; have h1 := hx.below b1; have z1 := b1.size)
      | (go_at_call 16; refine (refSum_calls _ _ _ xs _ h1 (by omega)).mono ?_; rintro e w2 ⟨rfl, rfl⟩)
      | (go_at_call 31; refine (low_calls _ _).mono ?_; rintro e w3 ⟨rfl, o3, b3⟩; have o1' := o1.below b3; have l1 := o1.lt; have z3 := b3.size)
      | (at_builtin; refine wpB_app rfl _ _ rfl _ _ _ _ rfl o1' _ _ _ _ rfl o3.read 4096 (by omega) (by omega) ?_; intro g4 c4 w4 q4 p4 o4 k4))
    go_ret2
    exact ⟨_, _, _, rfl, o4.read, (b1.trans (b3.mono z1)).grown k4 (by omega) (by simp; omega)⟩
  · have e1 : sealC xs = 20 := by unfold sealC; rw [if_neg (by omega)]
    have e2 : sealR xs = [] := by unfold sealR; rw [if_neg (by omega)]
    rw [e1, e2]
    have h1 : ((n : Int) != 4092) = true := by rw [bne_iff_ne]; omega
    clear e1 e2 hl
    go_enter Tryd.func22, Tryd.ntmps22
    go_wp2_with fail
    go_ret2
    exact ⟨_, _, _, rfl, RB.nil _, Below.refl _ _⟩

set_option maxHeartbeats 400000 in
theorem refOpen_any (A : Option Addr) (n c : Nat) (xs : List UInt8) (w : World) (hx : RB w A n c xs) :
    Calls Tryd.prog 32 #[.slice A n c] w (Two w (openR xs) (openC xs)) := by
  have hl := hx.len
  by_cases h : n = 4096
  · subst h
    obtain ⟨ad, rfl, _⟩ := hx.addr (by omega)
    have hc := RC.le hx
    have hbody : RB w (some ad) 4092 c (xs.take 4092) := hx.take 4092 (by omega)
    have hrest : RB w (some ⟨ad.block, ad.off + 4092, none⟩) 4 (c - 4092) (xs.drop 4092) := by
      have h2 := hx.cut (A' := some ⟨ad.block, ad.off + 4092, none⟩) 4092 4096 c (by omega) (Nat.le_refl _) hc (Nat.le_refl _) (fun _ => by simp [Addr.add]) (fun e => by cases e)
      have e : (xs.drop 4092).take (4096 - 4092) = xs.drop 4092 := List.take_of_length_le (by rw [List.length_drop]; omega)
      rwa [e] at h2
    have HL := hideIt hl
    clear hl
    have hcn : ¬ (c = 4092) := by omega
    have hci : (4096 : Int) ≤ c := by omega
    by_cases hd : xs.drop 4092 = Crc.tail4 (Crc.sum (xs.take 4092))
    · have e1 : openC xs = 0 := by unfold openC; rw [if_pos HL.out, if_pos hd]
      have e2 : openR xs = xs.take 4092 := by unfold openR; rw [if_pos e1]
      rw [e1, e2]
      have HD := hideIt hd
      clear e1 e2 hd
      go_enter Tryd.func32, Tryd.ntmps32
      go_wp2_with (first
        | (go_at_call 16; refine (refSum_calls _ _ _ _ _ hbody (by omega)).mono ?_; rintro e w2 ⟨rfl, rfl⟩)
        | (go_at_call 31; refine (low_calls _ _).mono ?_; rintro e w3 ⟨rfl, o3, b3⟩; have r3 := hrest.below b3; have y3 := hbody.below b3; have z3 := b3.size)
        | (go_at_call 23; refine (SameBytes_calls _ _ _ _ _ _ _ _ _ r3 o3.read true (decide_eq_true HD.out).symm).mono ?_; rintro e w4 ⟨rfl, rfl⟩)
        | (go_at_call 18; refine (Bytes_calls _ _ _ _ _ y3 (by omega)).mono ?_; rintro e w5 ⟨g5, c5, rfl, s5, o5, b5⟩))
      go_ret2
      exact ⟨_, _, _, rfl, o5.read, b3.trans (b5.mono z3)⟩
    · have e1 : openC xs = 22 := by unfold openC; rw [if_pos HL.out, if_neg hd]
      have e2 : openR xs = [] := by unfold openR; rw [if_neg (by rw [e1]; decide)]
      rw [e1, e2]
      have HD := hideIt hd
      clear e1 e2 hd
      go_enter Tryd.func32, Tryd.ntmps32
      go_wp2_with (first
        | (go_at_call 16; refine (refSum_calls _ _ _ _ _ hbody (by omega)).mono ?_; rintro e w2 ⟨rfl, rfl⟩)
        | (go_at_call 31; refine (low_calls _ _).mono ?_; rintro e w3 ⟨rfl, o3, b3⟩; have r3 := hrest.below b3)
        | (go_at_call 23; refine (SameBytes_calls _ _ _ _ _ _ _ _ _ r3 o3.read false (decide_eq_false HD.out).symm).mono ?_; rintro e w4 ⟨rfl, rfl⟩))
      go_ret2
      exact ⟨_, _, _, rfl, RB.nil _, b3⟩
  · have e1 : openC xs = 21 := by unfold openC; rw [if_neg (by omega)]
    have e2 : openR xs = [] := by unfold openR; rw [if_neg (by rw [e1]; decide)]
    rw [e1, e2]
    have h1 : ((n : Int) != 4096) = true := by rw [bne_iff_ne]; omega
    clear e1 e2 hl
    go_enter Tryd.func32, Tryd.ntmps32
    go_wp2_with fail
    go_ret2
    exact ⟨_, _, _, rfl, RB.nil _, Below.refl _ _⟩
end Go.Proofs.YtjfecechagoepaaDoor
