/- chain: EncodeData, EncodeList. -/
import Derived.Test.YthahedpkefojdaaNd
namespace Go.Proofs.Ythahedpkefojdaa
open Go.RowKit

theorem encD_copy (X n : Nat) (d : List UInt8) (h : d.length = n) :
    (hd 3 X n ++ zer (4092 - (hd 3 X n).length)).take 7 ++ (d.take n ++ (hd 3 X n ++ zer (4092 - (hd 3 X n).length)).drop (7 + n)) = encD X d := by
  unfold encD
  rw [hd_length, List.take_left' (hd_length 3 X n), hd_rest, List.take_of_length_le (by omega), h]
  congr 2
  unfold zer
  rw [List.drop_replicate]
theorem blw_step {w0 w w' : World} (b : Below w0.heap.size w0 w) (k : Below w.heap.size w w') : Below w0.heap.size w0 w' := b.trans (k.mono b.size)
theorem blw_own {B g : Nat} {w0 w w' : World} (b : Below B w0 w) (k : w.grownBy w' (some g)) (hB : B ≤ w.heap.size) (hg : B ≤ g) : Below B w0 w' := b.trans (below_of_grown k hB (by intro j hj; cases hj; exact hg))

def Enc (w : World) (r : List UInt8 × Int) (e : Ending) (w' : World) : Prop := ∃ A m c, e = .returned (.tuple #[.slice A m c, .int .i64 r.2]) ∧ GB w' w.heap.size A m c r.1 ∧ Below w.heap.size w w'

set_option maxRecDepth 100000 in
set_option maxHeartbeats 2000000 in
theorem EncodeData_calls (x : Int) (A : Option Addr) (n c : Nat) (d : List UInt8) (w : World) (h : RB w A n c d) :
    Calls Try.prog 10 #[.int .i64 x, .slice A n c] w (Enc w (encDS x d)) := by
  have HL := hideIt h.len
  have mx : n ≤ 9223372036854775807 := by have h1 := RC.le h; have h2 := RC.mx h; rw [maxLen_is] at h2; omega
  by_cases h1 : isNextB x = true
  · have IN := fun W => isNext_calls x W
    rw [h1] at IN
    by_cases h2 : isDataB x n = true
    · obtain ⟨ex, lx⟩ := isNext_toNat h1
      obtain ⟨n1, n2, _⟩ := isData_iff h2
      have hE : encDS x d = (encD x.toNat d, 0) := by unfold encDS; rw [if_pos h1, HL.out, if_pos h2]
      rw [hE]
      have ID := fun W => isData_calls x n W
      rw [h2] at ID
      generalize x.toNat = X at ex lx hE
      subst ex
      have LX := hideIt lx
      have LN := hideIt (show n < 256 ^ 2 from Nat.lt_of_le_of_lt n2 (by decide))
      have BG := fun W => begun_calls 3 X n W LX.out LN.out
      clear h1 h2 hE lx
      have i1 : (7 : Int) + (n : Int) - 7 = (n : Int) := by omega
      go_enter Try.func10, Try.ntmps10
      go_upto_region 6 with (first
        | (go_at_call 28; refine (BG _).mono ?_; rintro en w1 ⟨g, rfl, s1, o1, b1⟩)
        | (go_at_call 27; refine (ID _).mono ?_; rintro en wx ⟨rfl, rfl⟩)
        | (go_at_call 26; refine (IN _).mono ?_; rintro en wx ⟨rfl, rfl⟩))
      have r1 := h.below b1
      have z1 := b1.size
      go_wp2_with (with_reducible refine wpB_copy rfl (.tmp 27) (.tmp 28) rfl _ _ _ rfl _ _ _ rfl g 4092 4092 7 _ _ o1.all r1 n (by simp) (fun _ => rfl) (by omega) ?_; intro w2 o2 k2)
      rw [encD_copy X n d HL.out] at o2
      go_ret2
      exact ⟨_, _, _, rfl, GB.of o2 s1, blw_own b1 k2 z1 s1⟩
    · have h2' : isDataB x n = false := by simpa using h2
      have hE : encDS x d = ([], 62) := by unfold encDS; rw [if_pos h1, HL.out, if_neg h2]
      rw [hE]
      have ID := fun W => isData_calls x n W
      rw [h2'] at ID
      clear h1 h2 h2' hE
      go_enter Try.func10, Try.ntmps10
      go_wp2_with (first
        | (go_at_call 27; refine (ID _).mono ?_; rintro en wx ⟨rfl, rfl⟩)
        | (go_at_call 26; refine (IN _).mono ?_; rintro en wx ⟨rfl, rfl⟩))
      go_ret2
      exact ⟨_, _, _, rfl, GB.none_ _ _, Below.refl _ _⟩
  · have h1' : isNextB x = false := by simpa using h1
    have IN := fun W => isNext_calls x W
    rw [h1'] at IN
    have hE : encDS x d = ([], 51) := by unfold encDS; rw [if_neg h1]
    rw [hE]
    clear h1 h1' hE
    go_enter Try.func10, Try.ntmps10
    go_wp2_with (go_at_call 26; refine (IN _).mono ?_; rintro en wx ⟨rfl, rfl⟩)
    go_ret2
    exact ⟨_, _, _, rfl, GB.none_ _ _, Below.refl _ _⟩

theorem encL_zer (X n : Nat) (l : List Int) (h : l.length = n) (hn : n ≤ 1021) : (hd 4 X n ++ fours l) ++ zer (4092 - (hd 4 X n ++ fours l).length) = encL X l := by
  unfold encL
  rw [List.append_assoc, List.length_append, hd_length, fours_length, h]
  congr 3
  omega
set_option maxRecDepth 100000 in
set_option maxHeartbeats 2000000 in
theorem EncodeList_calls (x : Int) (A : Option Addr) (n c : Nat) (l : List Int) (w : World) (h : RI w A n c l) :
    Calls Try.prog 14 #[.int .i64 x, .slice A n c] w (Enc w (encLS x l)) := by
  have HL := hideIt h.len
  have mx := h.max
  by_cases h1 : isNextB x = true
  · have IN := fun W => isNext_calls x W
    rw [h1] at IN
    by_cases h2 : isListB x l = true
    · obtain ⟨ex, lx⟩ := isNext_toNat h1
      obtain ⟨n2, _, hr⟩ := isList_iff h2
      rw [HL.out] at n2
      have hE : encLS x l = (encL x.toNat l, 0) := by unfold encLS; rw [if_pos h1, if_pos h2]
      rw [hE]
      have IL := fun W q => isList_calls x A n c l W q
      rw [h2] at IL
      generalize x.toNat = X at ex lx hE
      subst ex
      have LX := hideIt lx
      have LN := hideIt (show n < 256 ^ 2 from Nat.lt_of_le_of_lt n2 (by decide))
      have BG := fun W => begun_calls 4 X n W LX.out LN.out
      have HR := hideIt (rises_range 1 l hr)
      clear h1 h2 hE lx hr
      go_enter Try.func14, Try.ntmps14
      go_upto_region 6 with (first
        | (go_at_call 28; refine (BG _).mono ?_; rintro en w1 ⟨g, rfl, s1, o1, b1⟩)
        | (go_at_call 31; refine (IL _ h).mono ?_; rintro en wx ⟨rfl, rfl⟩)
        | (go_at_call 26; refine (IN _).mono ?_; rintro en wx ⟨rfl, rfl⟩))
      go_wp2
      go_loopw [6, 22] (fun bb kk wr => ∃ (k m : Nat), k ≤ n ∧ m = 7 + 4 * k ∧ kk = .int .i64 (k : Int) ∧ bb = .slice (some ⟨g, 0, none⟩) m 4092 ∧ OZ wr g 4092 (hd 4 X n ++ fours (l.take k)) ∧ Below w.heap.size w wr)
        (fun _ kk _ => n - (intOf kk).toNat)
      case atStart => exact ⟨0, 7, by omega, rfl, rfl, rfl, by simpa [fours] using o1, b1⟩
      case round =>
        obtain ⟨k, m, hk, hm, rfl, rfl, oz, b⟩ := hrel
        by_cases hlt : k < n
        · have hkl : k < l.length := by rw [HL.out]; exact hlt
          obtain ⟨ad, rfl, cell⟩ := (h.below b).at_ k hkl
          have hz := HR.out l[k] (List.getElem_mem _)
          have htk : fours (l.take (k + 1)) = fours (l.take k) ++ leB l[k].toNat 4 := by rw [← List.take_append_getElem hkl, fours_append, fours_one]
          have HT := hideIt htk
          obtain ⟨z, ez⟩ : ∃ z : Nat, l[k] = (z : Int) := ⟨l[k].toNat, by omega⟩
          have hTl : (fours (l.take k)).length = 4 * k := by rw [fours_length, List.length_take]; omega
          rw [ez, Int.toNat_natCast] at HT
          rw [ez] at cell hz
          have ZL : z < 256 ^ 4 := Nat.lt_of_le_of_lt (m := 524286) (by omega) (by decide)
          have HZ := hideIt ZL
          have hu := u32_of z ZL
          have i1 : (k : Int) < (n : Int) := by omega
          have HM : Hid ((hd 4 X n ++ fours (l.take k)).length = m) := hideIt (by rw [List.length_append, hd_length, hTl]; omega)
          have hm4 : m + 4 ≤ 4092 := by omega
          have HM2 := hideIt hm
          clear htk ez ZL hTl hm
          have bs := b.size
          go_wp2_with (first
            | (with_reducible refine wpZ_app rfl (.tmp 26) (.tmp 29) rfl _ _ _ _ rfl oz2 HM.out _ _ _ _ rfl q2.read (by decide) (m + 4) rfl hm4 ?_; intro w3 o3 k3)
            | (go_at_call 32; refine (Put32_calls none 0 0 [] z _ (RB.nil _) (by omega) HZ.out).mono ?_; rintro en w2 ⟨g2, c2, rfl, s2, q2, b2⟩; have oz2 := oz.below b2; have bb2 := blw_step b b2))
          have b3 := blw_own bb2 k3 bb2.size s1
          rw [List.nil_append, List.append_assoc, ← HT.out] at o3
          go_roundw
          case rel => exact ⟨k + 1, m + 4, by omega, by rw [HM2.out]; omega, by go_num, rfl, o3, b3⟩
          case measure => simp [intOf]; omega
        · obtain rfl : n = k := by omega
          have hm4 : m ≤ 4092 := by omega
          have oz := oz.all
          rw [List.take_of_length_le (by rw [HL.out]; exact Nat.le_refl _), encL_zer X n l HL.out n2] at oz
          clear hm
          go_wp2
          go_ret2
          exact ⟨_, _, _, rfl, GB.of oz s1, b⟩
    · have h2' : isListB x l = false := by simpa using h2
      have hE : encLS x l = ([], 63) := by unfold encLS; rw [if_pos h1, if_neg h2]
      rw [hE]
      have IL := fun W q => isList_calls x A n c l W q
      rw [h2'] at IL
      clear h1 h2 h2' hE
      go_enter Try.func14, Try.ntmps14
      go_wp2_with (first
        | (go_at_call 31; refine (IL _ h).mono ?_; rintro en wx ⟨rfl, rfl⟩)
        | (go_at_call 26; refine (IN _).mono ?_; rintro en wx ⟨rfl, rfl⟩))
      go_ret2
      exact ⟨_, _, _, rfl, GB.none_ _ _, Below.refl _ _⟩
  · have h1' : isNextB x = false := by simpa using h1
    have IN := fun W => isNext_calls x W
    rw [h1'] at IN
    have hE : encLS x l = ([], 51) := by unfold encLS; rw [if_neg h1]
    rw [hE]
    clear h1 h1' hE
    go_enter Try.func14, Try.ntmps14
    go_wp2_with (go_at_call 26; refine (IN _).mono ?_; rintro en wx ⟨rfl, rfl⟩)
    go_ret2
    exact ⟨_, _, _, rfl, GB.none_ _ _, Below.refl _ _⟩
end Go.Proofs.Ythahedpkefojdaa
