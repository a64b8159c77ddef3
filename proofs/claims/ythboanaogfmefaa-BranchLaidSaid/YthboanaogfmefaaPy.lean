/- coppicelaw5.stays. -/
import Derived.Test.YthboanaogfmefaaPx
import Derived.Test.YthboanaogfmefaaPo
namespace Go.Proofs.Ythboanaogfmefaa
open Go.RowKit

set_option maxRecDepth 100000 in
set_option maxHeartbeats 2000000 in
theorem stays_calls (base : Nat) (A : Option Addr) (n c : Nat) (ps : List (Option Addr × Nat × Nat)) (l : List (List UInt8)) (gz : Nat) (B : Option Addr) (d : Nat) (vs : List Value) (w : World) (h : LM w base A n c ps l gz) (k : RM w B n d vs l) (hf : Few n l) :
    Calls Try.prog 17 #[.slice A n c, .slice B n d] w fun e w' => e = .returned (.bool true) ∧ ∃ j, w' = w.drewN j := by
  have hn := hf.n
  have HS := hideIt hf.s
  have SB := SameByteLists_calls _ _ _ _ _ _ _ _ _ _ _ h.read k true (by simp)
  go_enter Try.func17, Try.ntmps17
  go_upto_region 2 with (go_at_call 30; refine SB.mono ?_; rintro en w1 ⟨rfl, j1, hw1⟩; have HW := hideIt hw1; clear hw1)
  clear SB
  go_wp2
  go_loopw [5, 6] (fun oo ii wr => ∃ i j : Nat, i ≤ n ∧ oo = .bool true ∧ ii = .int .i64 (i : Int) ∧ Hid (wr = w.drewN j))
    (fun _ ii _ => n - (intOf ii).toNat)
  case atStart => exact ⟨0, j1, by omega, rfl, rfl, HW⟩
  case round =>
    clear HW
    obtain ⟨i, j, hi, rfl, rfl, HW⟩ := hrel
    have hb : Below w.heap.size w wr := below_at (below_drewN (Below.refl _ _) j) HW.out
    have hm := h.below hb
    have km := k.below hb
    rcases GC.oc hm.row with ⟨_, q, _⟩ | ⟨gr, rfl, gb, orow⟩
    · omega
    by_cases hlt : i < n
    · obtain ⟨ad, Ai, ni, ci, s, rfl, hs, cell, rs⟩ := km.row i hlt
      obtain ⟨p, hp⟩ : ∃ p, ps[i]? = some p := ⟨_, List.getElem?_eq_getElem (by rw [hm.n]; exact hlt)⟩
      obtain ⟨g, cg, rfl, hg, o⟩ := hm.each i p s hp hs
      have cell2 := OC.cell orow i (sv (some ⟨g, 0, none⟩, s.length, cg)) (by rw [List.getElem?_append_left (by rw [List.length_map, hm.n]; exact hlt), List.getElem?_map, hp]; rfl)
      have sl := rs.len
      have nl : ni ≤ 10000 := by rw [← sl]; exact HS.out s (List.mem_of_getElem? hs)
      have oc := OC.le o
      have c1 := OB.cell o s.length (by simp)
      have c2 := OB.cell o (s.length + 1) (by simp)
      rw [show (s ++ [201, 202])[s.length]'(by simp) = 201 by simp] at c1
      rw [show (s ++ [201, 202])[s.length + 1]'(by simp) = 202 by simp] at c2
      rw [sl] at cell2 oc c1 c2
      have i1 : (i : Int) < (n : Int) := by omega
      have i2 : (ni : Int) + 2 ≤ (cg : Int) := by omega
      have i3 : (ni : Int) < (ni : Int) + 2 := by omega
      have i4 : (ni : Int) + 1 < (ni : Int) + 2 := by omega
      have i5 : ((ni : Int) + 1).toNat = ni + 1 := by omega
      have i6 : ((ni : Int) + 2).toNat = ni + 2 := by omega
      clear o hm km hb orow sl hs hp rs hg
      unfold sv at cell2
      simp only at cell2
      go_wp2
      go_roundw
      case rel => exact ⟨i + 1, j, by omega, rfl, by go_num, HW⟩
      case measure => simp [intOf]; omega
    · obtain rfl : n = i := by omega
      have cell := OC.cell orow n (.slice (some ⟨gz, 0, none⟩) 1 1) (by rw [List.getElem?_append_right (by rw [List.length_map, hm.n]; exact Nat.le_refl _), List.length_map, hm.n, Nat.sub_self]; rfl)
      obtain ⟨az, e, cz⟩ := hm.last.at_ 0 (by simp)
      cases e
      have cz' : wr.cell? ⟨gz, 0, none⟩ = some (.int .u8 203) := by simpa [Addr.add] using cz
      have oc := OC.le orow
      have i1 : (n : Int) + 1 ≤ (c : Int) := by omega
      have i2 : ((n : Int) + 1).toNat = n + 1 := by omega
      have i3 : (n : Int) < (n : Int) + 1 := by omega
      clear hm km hb orow cz
      go_wp2
      go_ret
      exact ⟨rfl, j, HW.out⟩
end Go.Proofs.Ythboanaogfmefaa
/- coppicelaw5.encodes, coppicelaw5.BranchEncodes. -/
namespace Go.Proofs.Ythboanaogfmefaa
open Go.RowKit

/-- Both encodes in one form: the same bytes and the same number. -/
theorem enc_two (level : Int) (l : List (List UInt8)) (ks : List (Int × Int)) : ∃ (bd : List UInt8) (cd : Int),
    (∀ (A : Option Addr) (n c : Nat) (vs : List Value) (B : Option Addr) (m d : Nat) (w : World), RM w A n c vs l → Few n l → RK w B m d ks →
      Calls Try.prog 21 #[.int .i64 level, .slice A n c, .slice B m d] w fun e w' => ∃ (A' : Option Addr) (n' : Nat), e = .returned (.tuple #[.slice A' n' n', .int .i64 cd]) ∧ GB w' w.heap.size A' n' n' bd ∧ Below w.heap.size w w') ∧
    (∀ (A : Option Addr) (n c : Nat) (vs : List Value) (B : Option Addr) (m d : Nat) (w : World), RM w A n c vs l → Few n l → RK w B m d ks →
      Calls Try.prog 23 #[.int .i64 level, .slice A n c, .slice B m d] w fun e w' => ∃ (A' : Option Addr) (n' : Nat), e = .returned (.tuple #[.slice A' n' n', .int .i64 cd]) ∧ GB w' w.heap.size A' n' n' bd ∧ Below w.heap.size w w') :=
  ⟨(encB level l ks).1, (encB level l ks).2, fun A n c vs B m d w h hf hk => Encode_calls level A n c vs l B m d ks w h hf hk, fun A n c vs B m d w h hf hk => refEncode_calls level A n c vs l B m d ks w h hf hk⟩

set_option maxRecDepth 100000 in
set_option maxHeartbeats 2000000 in
theorem encodes_calls (level : Int) (A : Option Addr) (n c : Nat) (vs : List Value) (l : List (List UInt8)) (B : Option Addr) (m d : Nat) (ks : List (Int × Int)) (w : World) (h : RM w A n c vs l) (hf : Few n l) (hk : RK w B m d ks) (hm : m ≤ 2000) :
    Calls Try.prog 19 #[.int .i64 level, .slice A n c, .slice B m d] w fun e w' => e = .returned (.bool true) ∧ Below w.heap.size w w' := by
  obtain ⟨bd, cd, E1, E2⟩ := enc_two level l ks
  go_enter Try.func19, Try.ntmps19
  go_upto_region 2 with (go_at_call 14; refine (lent_calls _ _ _ _ _ _ h hf).mono ?_; rintro en w1 ⟨A1, c1, ps, gz, rfl, lm, x1⟩)
  have h1 := h.below x1
  have k1 := hk.below x1
  go_upto_region 3 with (go_at_call 20; refine (lentKids_calls _ _ _ _ _ k1 (by omega)).mono ?_; rintro en w2 ⟨A2, c2, rfl, lk, x2⟩)
  have h2 := h1.below x2
  have k2 := k1.below x2
  have lm2 := lm.below x2
  have b2 := blw_step x1 x2
  clear h1 k1 lm x1 x2
  have EN := E1 _ _ _ _ _ _ _ _ lm2.read hf lk.read
  clear E1
  go_upto_region 4 with (go_at_call 21; refine EN.mono ?_; rintro en w3 ⟨A3, n3, rfl, e3, x3⟩)
  have h3 := h2.below x3
  have k3 := k2.below x3
  have lm3 := lm2.below x3
  have lk3 := lk.below x3
  have b3 := blw_step b2 x3
  clear EN h2 k2 lm2 lk b2 x3
  have EN := E2 _ _ _ _ _ _ _ _ h3 hf k3
  clear E2
  go_upto_region 5 with (go_at_call 23; refine EN.mono ?_; rintro en w4 ⟨A4, n4, rfl, e4, x4⟩)
  have h4 := h3.below x4
  have k4 := k3.below x4
  have lm4 := lm3.below x4
  have lk4 := lk3.below x4
  have r3 := (GB.below e3 x4).read
  have r4 := e4.read
  have b4 := blw_step b3 x4
  clear EN h3 k3 lm3 lk3 b3 x4 e3 e4 h hk
  go_upto_region 6 with (go_at_call 24; refine (SameBytes_calls _ _ _ _ _ _ _ _ _ r3 r4 true (by simp)).mono ?_; rintro en wx ⟨rfl, rfl⟩)
  clear r3 r4
  have S1 := stays_calls _ _ _ _ _ _ _ _ _ _ _ lm4 h4 hf
  have S2 := fun j W (e : W = w4.drewN j) => stayKids_calls _ _ _ _ _ _ _ W (e ▸ lk4.below (below_drewN (Below.refl _ _) j)) (RK.at_world (k4.drew_ j) e)
  clear lm4 lk4 h4 k4
  go_wp2_with (first
    | (go_at_call 25; refine (num_calls _ _).mono ?_; rintro en wx ⟨rfl, rfl⟩)
    | (go_at_call 39; refine (S2 j5 _ H5.out).mono ?_; rintro en w6 ⟨rfl, j6, h6⟩; have b6 := below_at (below_drewN b5 j6) h6; clear h6)
    | (go_at_call 17; refine S1.mono ?_; rintro en w5 ⟨rfl, j5, h5⟩; have b5 := below_at (below_drewN b4 j5) h5; have H5 := hideIt h5; clear h5))
  go_ret
  exact ⟨rfl, b6⟩

set_option maxRecDepth 100000 in
set_option maxHeartbeats 1000000 in
theorem BranchEncodes_walk (level : Int) (A : Option Addr) (n c : Nat) (vs : List Value) (l : List (List UInt8)) (B : Option Addr) (m d : Nat) (ks : List (Int × Int)) (w : World) (_hz : -9223372036854775808 ≤ level ∧ level ≤ 9223372036854775807) (h : RM w A n c vs l) (hk : RK w B m d ks) :
    Calls Try.prog 4 #[.int .i64 level, .slice A n c, .slice B m d] w fun e w' => e = .returned (.bool true) ∧ Below w.heap.size w w' := by
  have FW := fun W q => few_calls A n c vs l B m d W q
  obtain ⟨f, hf⟩ : ∃ f, fewS l m = f := ⟨_, rfl⟩
  rw [hf] at FW
  have HF := hideIt hf
  clear hf
  go_enter Try.func4, Try.ntmps4
  go_upto_region 2 with (go_at_call 12; refine (first_calls _).mono ?_; rintro en w1 ⟨rfl, b1⟩)
  have h1 := h.below b1
  have hk1 := hk.below b1
  cases f
  · go_wp2_with (go_at_call 13; refine (FW _ h1).mono ?_; rintro en wx ⟨rfl, rfl⟩)
    go_ret
    exact ⟨rfl, b1⟩
  · have EN := encodes_calls level _ _ _ _ _ _ _ _ _ _ h1 (few_few HF.out h.len) hk1 (few_of HF.out).2.1
    go_wp2_with (first
      | (go_at_call 13; refine (FW _ h1).mono ?_; rintro en wx ⟨rfl, rfl⟩)
      | (go_at_call 19; refine EN.mono ?_; rintro en w2 ⟨rfl, x2⟩; have b2 := blw_step b1 x2))
    go_ret
    exact ⟨rfl, b2⟩
end Go.Proofs.Ythboanaogfmefaa
