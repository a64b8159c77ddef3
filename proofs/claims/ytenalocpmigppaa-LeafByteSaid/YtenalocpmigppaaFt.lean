/- coppicelaw4.LeafByte. -/
import Derived.Test.YtenalocpmigppaaFr
import Derived.Test.YtenalocpmigppaaLit
namespace Go.Proofs.Ytenalocpmigppaa
open Go.RowKit

theorem xor_neT (b x : UInt8) (h : x ≠ 0) : b ^^^ x ≠ b := by
  intro q
  refine h ?_
  have : b ^^^ (b ^^^ x) = b ^^^ b := by rw [q]
  rw [← UInt8.xor_assoc, UInt8.xor_self, UInt8.zero_xor] at this
  exact this
theorem set_neT (l : List UInt8) (q : Nat) (x : UInt8) (hq : q < l.length) (h : x ≠ 0) : l.set q (l.getD q 0 ^^^ x) ≠ l := by
  intro e
  have h1 := congrArg (fun m => m[q]?) e
  simp only [List.getElem?_set_self hq] at h1
  rw [List.getD_eq_getElem?_getD, List.getElem?_eq_getElem hq] at h1
  simp only [Option.getD_some, Option.some.injEq] at h1
  exact xor_neT _ x h h1
theorem decT_ne {B : List UInt8} {l m : List It} (h : decT B = some m) (hb : bodyT l ≠ B) : m ≠ l := by
  rintro rfl
  exact hb (decT_some h).2.1

set_option maxRecDepth 100000 in
set_option maxHeartbeats 4000000 in
theorem LeafByte_walk (A : Option Addr) (n c : Nat) (vs : List Value) (l : List It) (at_ : Int) (x : UInt8) (w : World) (h : RT w A n c vs l) (_ha : -9223372036854775808 ≤ at_ ∧ at_ ≤ 9223372036854775807) :
    Calls Try.prog 10 #[.slice A n c, .int .i64 at_, .int .u8 (x.toNat : Int)] w fun e w' => e = .returned (.bool true) ∧ Below w.heap.size w w' := by
  have F1 := fun W q => short_calls A n c vs l W q
  obtain ⟨f, hf⟩ : ∃ f, shortT l = f := ⟨_, rfl⟩
  rw [hf] at F1
  have HF := hideIt hf
  clear hf
  go_enter Try.func10, Try.ntmps10
  go_upto_region 2 with (go_at_call 11; refine (first_calls _).mono ?_; rintro en w1 ⟨rfl, b1⟩)
  have h1 := h.below b1
  clear h
  cases f
  · go_wp2_with (go_at_call 12; refine (F1 _ h1).mono ?_; rintro en wx ⟨rfl, rfl⟩)
    go_ret
    exact ⟨rfl, b1⟩
  have s1 := (short_of HF.out).1
  rw [h1.len] at s1
  by_cases hx : x = 0
  · subst hx
    go_wp2_with (go_at_call 12; refine (F1 _ h1).mono ?_; rintro en wx ⟨rfl, rfl⟩)
    go_ret
    exact ⟨rfl, b1⟩
  have tx : ((x.toNat : Int) == 0) = false := beq_eq_false_iff_ne.2 (fun q => hx (UInt8.toNat_inj.1 (by show x.toNat = 0; omega)))
  have HX := hideIt hx
  clear hx
  go_upto_region 4 with (go_at_call 12; refine (F1 _ h1).mono ?_; rintro en wx ⟨rfl, rfl⟩)
  clear F1 HF
  by_cases hw : errT l = 0
  · have EN := Encode_ok _ _ _ _ _ _ h1 hw
    have HW := hideIt hw
    have BL := hideIt (bodyT_length (okT_of hw))
    clear hw
    go_upto_region 5 with (go_at_call 23; refine EN.mono ?_; rintro en w2 ⟨g2, rfl, s2, o2, x2⟩)
    have h2 := h1.below x2
    have b2 := blw_step b1 x2
    have ws2 := Nat.le_trans b1.size s2
    clear EN
    obtain ⟨r, q, hr, hr1, hr2, hq, hqn⟩ := place at_ 4092 (by omega)
    obtain ⟨y, hy0⟩ : ∃ y, (bodyT l).getD q 0 = y := ⟨_, rfl⟩
    have HY := hideIt hy0
    clear hy0
    have cq := byte_cell o2 hqn HY
    have fq := o2.free q
    have o3 := byte_turn o2 q y x
    have bb : Below w1.heap.size w1 (w2.setCell ⟨g2, q, none⟩ (.int .u8 (bits .xor .u8 (y.toNat : Int) (x.toNat : Int)))) := blw_own x2 (grownBy_set w2 g2 q _) x2.size s2
    have NE := hideIt (set_neT (bodyT l) q x (by rw [BL.out]; exact hqn) HX.out)
    rw [HY.out] at NE
    rw [show ((4092 : Nat) : Int) = 4092 from rfl] at hr hr1 hr2 hq
    have i1 : (q : Int) < 4092 := by omega
    generalize (bodyT l).set q (y ^^^ x) = B' at o3 NE
    go_upto_region 7 with (go_at_call 24; refine (num_calls _ _).mono ?_; rintro en wx ⟨rfl, rfl⟩)
    have h3 : RT (w2.setCell ⟨g2, q, none⟩ (.int .u8 (bits .xor .u8 (y.toNat : Int) (x.toNat : Int)))) A n c vs l := h1.below bb
    have b3 := blw_step b1 bb
    go_upto_region 9 with fail
    generalize w2.setCell ⟨g2, q, none⟩ (.int .u8 (bits .xor .u8 (y.toNat : Int) (x.toNat : Int))) = w3 at o3 h3 b3 ⊢
    clear bb cq fq h1 h2 b2 o2 x2 s2 HY hr hr1 hr2 hq hqn i1 ws2 b1
    have D3 := Decode_calls _ _ _ _ w3 o3.read
    rcases hd : decT B' with _ | m
    · go_upto_region 10 with (go_at_call 25; refine D3.mono ?_; intro en w4 qd; obtain ⟨A4, c4, zs, rfl, o4, hz, x4⟩ := qd.noneT hd)
      have b4 := blw_step b3 x4
      clear qd D3 o4 hz h3 o3 b3 x4 hd
      go_wp2_with (go_at_call 24; refine (num_calls _ _).mono ?_; rintro en wx ⟨rfl, rfl⟩)
      go_ret
      exact ⟨rfl, b4⟩
    · have DIFF := hideIt (decT_ne hd (l := l) (fun e => NE.out e.symm))
      go_upto_region 10 with (go_at_call 25; refine D3.mono ?_; intro en w4 qd; obtain ⟨zs, A4, n4, c4, rfl, o4, hz, x4⟩ := qd.someT hd)
      have b4 := blw_step b3 x4
      have h4 := h3.below x4
      have S := SameItems_calls _ _ _ _ _ _ _ _ _ _ _ o4.read h4 false (by simp only [Bool.false_eq_true, false_iff]; rw [hz]; exact DIFF.out)
      clear qd D3 h3 o3 b3 x4 hd
      go_wp2_with (first
        | (go_at_call 24; refine (num_calls _ _).mono ?_; rintro en wx ⟨rfl, rfl⟩)
        | (go_at_call 26; refine S.mono ?_; rintro en w5 ⟨rfl, y5⟩; have b5 := blw_step b4 y5))
      go_ret
      exact ⟨rfl, b5⟩
  · have EN := Encode_no _ _ _ _ _ _ h1 (by omega) hw
    generalize errT l = e1 at EN hw
    have t : (e1 != 0) = true := by rw [bne_iff_ne]; exact hw
    clear hw h1
    go_wp2_with (first
      | (go_at_call 23; refine EN.mono ?_; rintro en w2 ⟨rfl, y2⟩; have b2 := blw_step b1 y2)
      | (go_at_call 24; refine (num_calls _ _).mono ?_; rintro en wx ⟨rfl, rfl⟩))
    go_ret
    exact ⟨rfl, b2⟩
end Go.Proofs.Ytenalocpmigppaa
