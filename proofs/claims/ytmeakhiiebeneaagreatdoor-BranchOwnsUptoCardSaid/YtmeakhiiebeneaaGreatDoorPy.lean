/- coppicelaw5.stays. -/
import Derived.Test.YtmeakhiiebeneaaGreatDoorNC
import Derived.Test.YtmeakhiiebeneaaGreatDoorPo
namespace Go.Proofs.YtmeakhiiebeneaaGreatDoor
open Go.RowKit

set_option maxRecDepth 100000 in
set_option maxHeartbeats 2000000 in
theorem stays_calls (base : Nat) (A : Option Addr) (n c : Nat) (ps : List (Option Addr × Nat × Nat)) (l : List (List UInt8)) (gz : Nat) (B : Option Addr) (d : Nat) (vs : List Value) (w : World) (h : LM w base A n c ps l gz) (k : RM w B n d vs l) (hf : Few n l) :
    Calls Tryz.prog 53 #[.slice A n c, .slice B n d] w fun e w' => e = .returned (.bool true) ∧ ∃ j, w' = w.drewN j := by
  have hn := hf.n
  have HS := hideIt hf.s
  have SB := SameByteLists_calls _ _ _ _ _ _ _ _ _ _ _ h.read k true (by simp)
  go_enter Tryz.func53, Tryz.ntmps53
  go_upto_region 2 with (go_at_call 32; refine SB.mono ?_; rintro en w1 ⟨rfl, j1, hw1⟩; have HW := hideIt hw1; clear hw1)
  clear SB
  go_wp2
  go_loopw [5, 6] (fun oo ii wr => ∃ i j : Nat, i ≤ n ∧ oo = .bool true ∧ ii = .int .i64 (i : Int) ∧ Hid (wr = w.drewN j))
    (fun _ ii _ => n - (intOf ii).toNat)
  case atStart => exact ⟨0, j1, by omega, rfl, rfl, HW⟩
  case round =>
    clear HW
    obtain ⟨i, j, hi, rfl, rfl, HW⟩ := hrel
    have hb : Below w.heap.size w wr := below_at (below_drewN (Below.refl _ _) j) HW.out
    have hm := h.below hb
    have km := k.below hb
    rcases GC.oc hm.row with ⟨_, q, _⟩ | ⟨gr, rfl, gb, orow⟩
    · omega
    by_cases hlt : i < n
    · obtain ⟨ad, Ai, ni, ci, s, rfl, hs, cell, rs⟩ := km.row i hlt
      obtain ⟨p, hp⟩ : ∃ p, ps[i]? = some p := ⟨_, List.getElem?_eq_getElem (by rw [hm.n]; exact hlt)⟩
      obtain ⟨g, cg, rfl, hg, o⟩ := hm.each i p s hp hs
      have cell2 := OC.cell orow i (sv (some ⟨g, 0, none⟩, s.length, cg)) (by rw [List.getElem?_append_left (by rw [List.length_map, hm.n]; exact hlt), List.getElem?_map, hp]; rfl)
      have sl := rs.len
      have nl : ni ≤ 10000 := by rw [← sl]; exact HS.out s (List.mem_of_getElem? hs)
      have oc := OC.le o
      have c1 := OB.cell o s.length (by simp)
      have c2 := OB.cell o (s.length + 1) (by simp)
      rw [show (s ++ [201, 202])[s.length]'(by simp) = 201 by simp] at c1
      rw [show (s ++ [201, 202])[s.length + 1]'(by simp) = 202 by simp] at c2
      rw [sl] at cell2 oc c1 c2
      have i1 : (i : Int) < (n : Int) := by omega
      have i2 : (ni : Int) + 2 ≤ (cg : Int) := by omega
      have i3 : (ni : Int) < (ni : Int) + 2 := by omega
      have i4 : (ni : Int) + 1 < (ni : Int) + 2 := by omega
      have i5 : ((ni : Int) + 1).toNat = ni + 1 := by omega
      have i6 : ((ni : Int) + 2).toNat = ni + 2 := by omega
      clear o hm km hb orow sl hs hp rs hg
      unfold sv at cell2
      simp only at cell2
      go_wp2
      go_roundw
      case rel => exact ⟨i + 1, j, by omega, rfl, by go_num, HW⟩
      case measure => simp [intOf]; omega
    · obtain rfl : n = i := by omega
      have cell := OC.cell orow n (.slice (some ⟨gz, 0, none⟩) 1 1) (by rw [List.getElem?_append_right (by rw [List.length_map, hm.n]; exact Nat.le_refl _), List.length_map, hm.n, Nat.sub_self]; rfl)
      obtain ⟨az, e, cz⟩ := hm.last.at_ 0 (by simp)
      cases e
      have cz' : wr.cell? ⟨gz, 0, none⟩ = some (.int .u8 203) := by simpa [Addr.add] using cz
      have oc := OC.le orow
      have i1 : (n : Int) + 1 ≤ (c : Int) := by omega
      have i2 : ((n : Int) + 1).toNat = n + 1 := by omega
      have i3 : (n : Int) < (n : Int) + 1 := by omega
      clear hm km hb orow cz
      go_wp2
      go_ret
      exact ⟨rfl, j, HW.out⟩
end Go.Proofs.YtmeakhiiebeneaaGreatDoor
/- coppicelaw5.encodes, coppicelaw5.BranchEncodes. -/
namespace Go.Proofs.YtmeakhiiebeneaaGreatDoor
open Go.RowKit

set_option maxRecDepth 100000 in
/-- Both encodes in one form: the same bytes and the same number. -/
theorem enc_two (level : Int) (l : List (List UInt8)) (ks : List (Int × Int)) : ∃ (bd : List UInt8) (cd : Int),
    (∀ (A : Option Addr) (n c : Nat) (vs : List Value) (B : Option Addr) (m d : Nat) (w : World), RM w A n c vs l → Few n l → RK w B m d ks →
      Calls Tryz.prog 48 #[.int .i64 level, .slice A n c, .slice B m d] w fun e w' => ∃ (A' : Option Addr) (n' : Nat), e = .returned (.tuple #[.slice A' n' n', .int .i64 cd]) ∧ GB w' w.heap.size A' n' n' bd ∧ Below w.heap.size w w') ∧
    (∀ (A : Option Addr) (n c : Nat) (vs : List Value) (B : Option Addr) (m d : Nat) (w : World), RM w A n c vs l → Few n l → RK w B m d ks →
      Calls Tryz.prog 45 #[.int .i64 level, .slice A n c, .slice B m d] w fun e w' => ∃ (A' : Option Addr) (n' : Nat), e = .returned (.tuple #[.slice A' n' n', .int .i64 cd]) ∧ GB w' w.heap.size A' n' n' bd ∧ Below w.heap.size w w') :=
  ⟨(encB level l ks).1, (encB level l ks).2, fun A n c vs B m d w h hf hk => Encode_calls level A n c vs l B m d ks w h hf hk, fun A n c vs B m d w h hf hk => refEncode_calls level A n c vs l B m d ks w h hf hk⟩

end Go.Proofs.YtmeakhiiebeneaaGreatDoor
