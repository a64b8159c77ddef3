/- coppicekept.Book, lists of items: itemsMark, itemsShow. -/
import Derived.Test.YtmeakhiiebeneaaGreatDoorJa
import Derived.Test.YtmeakhiiebeneaaGreatDoorFq
namespace Go.Proofs.YtmeakhiiebeneaaGreatDoor
open Go.RowKit

def mkI (p : Int) (id j : Nat) : List Value := [.slice none 0 0, .slice none 0 0, .int .i64 (id : Int), .int .i64 (2 * (j : Int) + p)]
theorem mkI_length (p : Int) (id j : Nat) : (mkI p id j).length = 4 := rfl
set_option maxRecDepth 100000 in
set_option maxHeartbeats 1000000 in
theorem itemsMark_calls (gk : Nat) (p z : Int) (id j : Nat) (w : World) (hp : w.cell? ⟨gk, 1, none⟩ = some (.int .i64 p)) (hz : z = (id : Int)) (h0 : 0 ≤ p) (h3 : p ≤ 1) (_h1 : id ≤ 1000000000) (h2 : j ≤ 1000000000) :
    Calls Tryz.prog 199 #[.pointer (some ⟨gk, 0, none⟩), .int .i64 z, .int .i64 (j : Int)] w fun e w' => e = .returned (.agg #[.slice none 0 0, .slice none 0 0, .int .i64 (id : Int), .int .i64 (2 * (j : Int) + p)]) ∧ Below w.heap.size w w' := by
  subst hz
  have wp : IntKind.i64.wrap (2 * (j : Int) + p) = 2 * (j : Int) + p := by rw [IntKind.wrap_i64]; omega
  have hl : gk < w.heap.size := World.block_lt_of_cell? w _ hp
  have hp1 : (w.alloc (.cells #[.slice none 0 0, .slice none 0 0, .int .i64 0, .int .i64 0] 133)).cell? ⟨gk, 1, none⟩ = some (.int .i64 p) := cell_sm hp (Sm.alloc w _ hl)
  have oi : OC (w.alloc (.cells #[.slice none 0 0, .slice none 0 0, .int .i64 0, .int .i64 0] 133)) 133 4 w.heap.size 1 1 [.slice none 0 0, .slice none 0 0, .int .i64 0, .int .i64 0] := OC.mk rfl _ (heap_alloc_new w _) (Nat.le_refl _) (by rw [maxLen_is]; omega) rfl rfl
  have bb := below1 w (.cells #[.slice none 0 0, .slice none 0 0, .int .i64 0, .int .i64 0] 133)
  go_enter Tryz.func199, Tryz.ntmps199
  go_wp2
  have of : OC (w.alloc (.cells #[.slice none 0 0, .slice none 0 0, .int .i64 (id : Int), .int .i64 (2 * (j : Int) + p)] 133)) 133 4 w.heap.size 1 1 [.slice none 0 0, .slice none 0 0, .int .i64 (id : Int), .int .i64 (2 * (j : Int) + p)] := OC.mk rfl _ (heap_alloc_new w _) (Nat.le_refl _) (by rw [maxLen_is]; omega) rfl rfl
  exact ret_item of rfl rfl rfl ⟨rfl, below1 _ _⟩
theorem itI_at {w : World} {A : Option Addr} {n c id : Nat} {p : Int} (h : RC w 4 A n c (runs (mkI p id) n)) (j : Nat) (hj : j < n) : ∃ ad, A = some ad ∧ ItAt w (ad.add (j * 4)) (none, 0, 0) (none, 0, 0) (id : Int) (2 * (j : Int) + p) := by
  obtain ⟨ad, e, hc⟩ := RC.drop0 h (by omega)
  have k := fun i (hi : i < 4) => runs_get (mkI p id) 4 (mkI_length p id) n j i hj hi
  refine ⟨ad, e, ⟨?_, ?_, ?_, ?_⟩⟩
  · exact hc (j * 4) _ (k 0 (by decide))
  · rw [← add_more]; exact hc _ _ (k 1 (by decide))
  · rw [← add_more]; exact hc _ _ (k 2 (by decide))
  · rw [← add_more]; exact hc _ _ (k 3 (by decide))
set_option maxRecDepth 100000 in
set_option maxHeartbeats 4000000 in
theorem itemsShow_calls (gk : Nat) (p z : Int) (id : Nat) (A : Option Addr) (n c : Nat) (w : World) (hp : w.cell? ⟨gk, 1, none⟩ = some (.int .i64 p)) (hz : z = (id : Int)) (h0 : 0 ≤ p) (h3 : p ≤ 1) (h : RC w 4 A n c (runs (mkI p id) n)) (h1 : id ≤ 1000000000) (h2 : n ≤ 1000000000) :
    Calls Tryz.prog 212 #[.pointer (some ⟨gk, 0, none⟩), .slice A n c, .int .i64 z] w fun e w' => e = .returned (.bool true) ∧ Below w.heap.size w w' := by
  subst hz
  go_enter Tryz.func212, Tryz.ntmps212
  go_wp2
  go_loopw [7] (fun jj wr => ∃ j : Nat, j ≤ n ∧ jj = .int .i64 (j : Int) ∧ Below w.heap.size w wr) (fun jj _ => n - (intOf jj).toNat)
  case atStart => exact ⟨0, by omega, rfl, Below.refl _ _⟩
  case round =>
    obtain ⟨j, hj, rfl, b⟩ := hrel
    by_cases hlt : j < n
    · obtain ⟨ad, rfl, it⟩ := itI_at (h.below b) j hlt
      have MK := itemsMark_calls gk p (id : Int) id j wr ((b.cell (World.block_lt_of_cell? w _ hp)).trans hp) rfl h0 h3 h1 (by omega)
      have i1 : (j : Int) < (n : Int) := by omega
      go_upto_region 5 with (go_at_call 199; (with_reducible refine MK.mono ?_); rintro en w2 ⟨rfl, x2⟩)
      have ba := below1 w2 (.cells #[.slice none 0 0, .slice none 0 0, .int .i64 (id : Int), .int .i64 (2 * (j : Int) + p)] 133)
      have b2 := blw_step (blw_step b x2) ba
      have itw := ItAt.new w2 133 (none, 0, 0) (none, 0, 0) (id : Int) (2 * (j : Int) + p)
      have it2 := (it.below x2).below ba
      simp only at itw it2
      clear MK it ba x2 b
      generalize w2.alloc (.cells #[.slice none 0 0, .slice none 0 0, .int .i64 (id : Int), .int .i64 (2 * (j : Int) + p)] 133) = w3 at *
      generalize w2.heap.size = g8 at *
      have SI : ∀ W, Calls Tryz.prog 182 #[.agg #[.slice none 0 0, .slice none 0 0, .int .i64 (id : Int), .int .i64 (2 * (j : Int) + p)], .agg #[.slice none 0 0, .slice none 0 0, .int .i64 (id : Int), .int .i64 (2 * (j : Int) + p)]] W fun e w' => e = .returned (.bool true) ∧ Below W.heap.size W w' :=
        fun W => SameItem_calls none none none none 0 0 0 0 0 0 0 0 ⟨[], [], (id : Int), 2 * (j : Int) + p⟩ ⟨[], [], (id : Int), 2 * (j : Int) + p⟩ W (RB.nil _) (RB.nil _) (RB.nil _) (RB.nil _) true (by simp)
      have bd : Below w.heap.size w w3.drew := b2.drew
      have IT : ItAt w3.drew (ad.add (j * 4)) (none, 0, 0) (none, 0, 0) (id : Int) (2 * (j : Int) + p) := ⟨it2.c0, it2.c1, it2.c2, it2.c3⟩
      have IT' : ItAt w3.drew ⟨g8, 0, none⟩ (none, 0, 0) (none, 0, 0) (id : Int) (2 * (j : Int) + p) := ⟨itw.c0, itw.c1, itw.c2, itw.c3⟩
      obtain ⟨y0, y1, y2, y3⟩ := IT
      obtain ⟨z0, z1, z2, z3⟩ := IT'.head
      simp only at y0 y1 z0 z1
      have IT : ItAt w3.drew (ad.add (j * 4)) (none, 0, 0) (none, 0, 0) (id : Int) (2 * (j : Int) + p) := ⟨it2.c0, it2.c1, it2.c2, it2.c3⟩
      clear itw it2 b2
      go_region_held3 (fun w' => (w'.cell? (ad.add (j * 4)) = some (.slice none 0 0) ∧ w'.cell? ⟨(ad.add (j * 4)).block, (ad.add (j * 4)).off + 1, none⟩ = some (.slice none 0 0) ∧ w'.cell? ⟨(ad.add (j * 4)).block, (ad.add (j * 4)).off + 2, none⟩ = some (.int .i64 (id : Int)) ∧ w'.cell? ⟨(ad.add (j * 4)).block, (ad.add (j * 4)).off + 3, none⟩ = some (.int .i64 (2 * (j : Int) + p))) ∧ (w'.cell? ⟨g8, 0, none⟩ = some (.slice none 0 0) ∧ w'.cell? ⟨g8, 1, none⟩ = some (.slice none 0 0) ∧ w'.cell? ⟨g8, 2, none⟩ = some (.int .i64 (id : Int)) ∧ w'.cell? ⟨g8, 3, none⟩ = some (.int .i64 (2 * (j : Int) + p))))
        (first | exact ⟨⟨y0, y1, y2, y3⟩, ⟨z0, z1, z2, z3⟩⟩ | exact ⟨⟨k0, k1, k2, k3⟩, ⟨j0, j1, j2, j3⟩⟩ | go_keep)
        (first
          | (go_at_call 182; (with_reducible refine (SI _).mono ?_); rintro en w5 ⟨rfl, x5⟩; have b5 := blw_step bd x5; obtain ⟨k0, k1, k2, k3⟩ := IT.below x5; obtain ⟨j0, j1, j2, j3⟩ := (IT'.below x5).head; simp only at k0 k1 j0 j1))
      clear IT IT' y0 y1 y2 y3 z0 z1 z2 z3 k0 k1 k2 k3 j0 j1 j2 j3 SI x5 bd
      go_wp2
      go_roundw
      case rel => exact ⟨j + 1, by omega, by go_num, b5⟩
      case measure => simp [intOf]; omega
    · obtain rfl : n = j := by omega
      go_wp2
      go_ret
      exact ⟨rfl, b⟩
end Go.Proofs.YtmeakhiiebeneaaGreatDoor
