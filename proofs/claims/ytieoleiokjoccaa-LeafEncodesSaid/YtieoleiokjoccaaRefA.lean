/- Contracts of coppiceref.Bytes and SameBytes. -/
import Derived.Test.YtieoleiokjoccaaB
import Derived.Laws.BytesArg
namespace Go.Proofs.Ytieoleiokjoccaa
open Go.RowKit

/-- A slice of bytes as a string. -/
theorem conv_str {P : Program} (w : World) {src e dst : TypeId} (hs : P.underlying src = some (.slice e)) (he : P.underlying e = some (.int .u8)) (hd : P.underlying dst = some .string)
    {A : Option Addr} {n c : Nat} {xs : List UInt8} (h : RB w A n c xs) : (convert src dst (.slice A n c)).run P w = .ok (.string ⟨xs.toArray⟩) w := by
  cases A with
  | none =>
    have hn : n = 0 := by have := RC.non h rfl; have := RC.le h; omega
    have : xs = [] := List.eq_nil_of_length_eq_zero (by rw [h.len, hn])
    subst this
    exact run_convert_bytes_nil w src e hs he n c dst hd
  | some ad =>
    have hl : (loadCells ad n).run P w = .ok ((xs.map fun x => (x.toNat : Int)).map (Value.int .u8)).toArray w := by
      have := run_loadCells_list (P := P) w ad (u8s xs) (RC.cell h ad rfl)
      rw [u8s_length, h.len] at this
      rw [this]
      simp [u8s]
    rw [run_convert_bytes_string w src dst e _ n c hs he hd, run_bytesToString w _ n c (xs.map fun x => (x.toNat : Int)) hl, foldl_push_bytes]
    congr 2
    simp only [List.map_map]
    have : ((fun n : Int => UInt8.ofNat n.toNat) ∘ fun x : UInt8 => (x.toNat : Int)) = id := by
      funext x; simp
    rw [this, List.map_id]
    simp [ByteArray.empty, ByteArray.emptyWithCapacity]
    rfl

set_option maxHeartbeats 400000 in
theorem Bytes_calls (A : Option Addr) (n c : Nat) (xs : List UInt8) (w : World) (h : RB w A n c xs) (hb : n ≤ 140737488351232) :
    Calls Try.prog 21 #[.slice A n c] w fun e w' => ∃ g c', e = .returned (.slice (some ⟨g, 0, none⟩) n c') ∧ w.heap.size ≤ g ∧ OB w' g n c' xs ∧ Below w.heap.size w w' := by
  go_enter Try.func21, Try.ntmps21
  go_wp2_with (first
    | (at_make; refine wpB_make rfl _ _ rfl _ _ _ n rfl rfl rfl (by omega) ?_; intro g1 w1 s1 o1 k1; have b1 := below_of_grown k1 (Nat.le_refl _) (by simp); have h1 := h.below b1)
    | (at_builtin; refine wpB_app rfl _ _ rfl _ _ _ _ rfl o1 _ _ _ _ rfl h1 n (by omega) (by omega) ?_; intro g2 c2 w2 q2 p2 o2 k2))
  have z1 := k1.size
  go_ret
  exact ⟨_, _, rfl, by omega, o2, b1.grown k2 z1 (by simp; omega)⟩

set_option maxHeartbeats 400000 in
theorem SameBytes_calls (A A' : Option Addr) (n c n' c' : Nat) (xs ys : List UInt8) (w : World) (h : RB w A n c xs) (h' : RB w A' n' c' ys) (r : Bool) (hr : r = decide (xs = ys)) :
    Calls Try.prog 27 #[.slice A n c, .slice A' n' c'] w fun e w' => e = .returned (.bool r) ∧ w = w' := by
  have k1 := conv_str (P := Try.prog) (src := 34) (dst := 9) w Try.underlying34 Try.underlying5 Try.underlying9 h
  have k2 := conv_str (P := Try.prog) (src := 34) (dst := 9) w Try.underlying34 Try.underlying5 Try.underlying9 h'
  subst hr
  go_enter Try.func27, Try.ntmps27
  go_wp2
  go_ret
  refine ⟨?_, rfl⟩
  have e : (xs == ys) = decide (xs = ys) := by rw [Bool.eq_iff_iff]; simp
  show Ending.returned (.bool (xs == ys)) = _
  rw [e]
end Go.Proofs.Ytieoleiokjoccaa
