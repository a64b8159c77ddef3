/- Words: a value of several cells stored into a list that is kept. -/
import Derived.Test.YtmeakhiiebeneaaGreatDoorJa
namespace Go.Proofs.YtmeakhiiebeneaaGreatDoor
open Go.RowKit

def putL (cs : List Value) (q : Nat) : List Value → List Value
  | [] => cs
  | v :: r => putL (cs.set q v) (q + 1) r
theorem putL_length (vs cs : List Value) (q : Nat) : (putL cs q vs).length = cs.length := by
  induction vs generalizing cs q with
  | nil => rfl
  | cons v r ih => rw [putL, ih, List.length_set]
theorem putL_take (vs cs : List Value) (q : Nat) (h : q + vs.length ≤ cs.length) : (putL cs q vs).take (q + vs.length) = cs.take q ++ vs := by
  induction vs generalizing cs q with
  | nil => simp [putL]
  | cons v r ih =>
    have hl : q < cs.length := by simp at h; omega
    rw [putL, List.length_cons, show q + (r.length + 1) = q + 1 + r.length by omega, ih _ _ (by rw [List.length_set]; simp at h; omega)]
    rw [List.take_add_one, List.take_set_of_le (Nat.le_refl _), List.getElem?_set_self hl]
    simp
theorem putL_step {cs : List Value} {n j sz : Nat} {mk : Nat → List Value} (hl : cs.length = n * sz) (ht : cs.take (j * sz) = runs mk j) (hj : j < n) (hm : (mk j).length = sz) : (putL cs (j * sz) (mk j)).length = n * sz ∧ (putL cs (j * sz) (mk j)).take ((j + 1) * sz) = runs mk (j + 1) := by
  refine ⟨by rw [putL_length, hl], ?_⟩
  have hle : j * sz + (mk j).length ≤ cs.length := by
    rw [hm, hl]
    have := Nat.mul_le_mul_right sz (show j + 1 ≤ n by omega)
    rw [Nat.add_mul, Nat.one_mul] at this
    exact this
  rw [show (j + 1) * sz = j * sz + (mk j).length by rw [hm, Nat.add_mul, Nat.one_mul], putL_take _ _ _ hle, ht, runs_succ]
theorem OC.cellN {w : World} {e sz g n c : Nat} {cs : List Value} (h : OC w e sz g n c cs) (k : Nat) (u : Value) (hu : cs[k]? = some u) : w.cell? ⟨g, k, none⟩ = some u := by
  have := h.read.cell ⟨g, 0, none⟩ rfl k u hu
  rcases Nat.eq_zero_or_pos k with rfl | hk
  · exact this
  · obtain ⟨k, rfl⟩ : ∃ q, k = q + 1 := ⟨k - 1, by omega⟩
    rw [Addr.add_succ'] at this
    simpa using this
theorem OC.hasN {w : World} {e sz g n c k : Nat} {cs : List Value} (h : OC w e sz g n c cs) (hk : k < n * sz) : ∃ u, w.cell? ⟨g, k, none⟩ = some u := by
  obtain ⟨u, hu⟩ : ∃ u, cs[k]? = some u := ⟨_, List.getElem?_eq_getElem (by rw [h.1]; exact hk)⟩
  exact ⟨u, h.cellN k u hu⟩
theorem grownBy_set' (w : World) (g j : Nat) (v : Value) : w.grownBy (w.setCell ⟨g, j, none⟩ v) (some g) :=
  ⟨rfl, rfl, rfl, by simp [World.setCell], fun k _ hk => Below.heap_setCell w _ v k (by intro e; exact hk (by rw [e]))⟩
theorem LS.turn2 {w : World} {base e sz rt n c : Nat} {A : Option Addr} {ps : List Slot} {css : List (List Value)} (h : LS w base e sz rt A n c ps css) (ne : e ≠ rt) (i q g nn cc : Nat) (cs : List Value) (a b : Value) (hp : ps[i]? = some (some ⟨g, 0, none⟩, nn, cc)) (hs : css[i]? = some cs) :
    LS ((w.setCell ⟨g, q, none⟩ a).setCell ⟨g, q + 1, none⟩ b) base e sz rt A n c ps (css.set i (putL cs q [a, b])) := by
  have il : i < css.length := (List.getElem?_eq_some_iff.1 hs).1
  have h1 := h.turn ne i q g nn cc cs a hp hs
  have h2 := h1.turn ne i (q + 1) g nn cc (cs.set q a) b hp (List.getElem?_set_self il)
  rw [List.set_set] at h2
  exact h2
theorem LS.turn4 {w : World} {base e sz rt n c : Nat} {A : Option Addr} {ps : List Slot} {css : List (List Value)} (h : LS w base e sz rt A n c ps css) (ne : e ≠ rt) (i q g nn cc : Nat) (cs : List Value) (a b d f : Value) (hp : ps[i]? = some (some ⟨g, 0, none⟩, nn, cc)) (hs : css[i]? = some cs) :
    LS ((((w.setCell ⟨g, q, none⟩ a).setCell ⟨g, q + 1, none⟩ b).setCell ⟨g, q + 2, none⟩ d).setCell ⟨g, q + 3, none⟩ f) base e sz rt A n c ps (css.set i (putL cs q [a, b, d, f])) := by
  have il : i < css.length := (List.getElem?_eq_some_iff.1 hs).1
  have h2 := h.turn2 ne i q g nn cc cs a b hp hs
  have h3 := h2.turn2 ne i (q + 2) g nn cc _ d f hp (List.getElem?_set_self il)
  rw [List.set_set] at h3
  exact h3
theorem RS.below {w w' : World} {sz n c : Nat} {A : Option Addr} {ps : List Slot} {css : List (List Value)} (h : RS w sz A n c ps css) (b : Below w.heap.size w w') : RS w' sz A n c ps css :=
  ⟨RC.below h.row b, h.len, fun j p cs k1 k2 => RC.below (h.each j p cs k1 k2) b⟩
end Go.Proofs.YtmeakhiiebeneaaGreatDoor
