/- The Book: a new one, its end, and what stays beside it. -/
import Derived.Test.YtmeakhiiebeneaaGreatDoorKg
namespace Go.Proofs.YtmeakhiiebeneaaGreatDoor
open Go.RowKit

theorem Out.keepBelow {w w' : World} {gk base B : Nat} (h : Out (KeepD w gk base) w w') (hB : B ≤ w.heap.size) (h1 : B ≤ gk) (h2 : B ≤ base) : Below B w w' :=
  h.below hB fun g q => by
    rcases q with rfl | ⟨q, _⟩
    · exact h1
    · exact Nat.le_trans h2 q
def bookO : Obj := .cells #[.int .i64 0, .int .i64 0, .slice none 0 0, .slice none 0 0, .slice none 0 0, .slice none 0 0, .slice none 0 0, .slice none 0 0, .slice none 0 0, .slice none 0 0, .slice none 0 0, .slice none 0 0, .slice none 0 0, .slice none 0 0, .slice none 0 0, .slice none 0 0, .slice none 0 0, .slice none 0 0, .slice none 0 0, .slice none 0 0, .slice none 0 0, .slice none 0 0, .slice none 0 0, .slice none 0 0, .slice none 0 0, .slice none 0 0, .slice none 0 0, .slice none 0 0, .slice none 0 0, .slice none 0 0, .slice none 0 0, .slice none 0 0, .slice none 0 0, .slice none 0 0, .slice none 0 0, .slice none 0 0, .slice none 0 0, .slice none 0 0, .slice none 0 0, .slice none 0 0, .slice none 0 0] 39
theorem built_book : Tryz.prog.built 39 [] = some #[.int .i64 0, .int .i64 0, .slice none 0 0, .slice none 0 0, .slice none 0 0, .slice none 0 0, .slice none 0 0, .slice none 0 0, .slice none 0 0, .slice none 0 0, .slice none 0 0, .slice none 0 0, .slice none 0 0, .slice none 0 0, .slice none 0 0, .slice none 0 0, .slice none 0 0, .slice none 0 0, .slice none 0 0, .slice none 0 0, .slice none 0 0, .slice none 0 0, .slice none 0 0, .slice none 0 0, .slice none 0 0, .slice none 0 0, .slice none 0 0, .slice none 0 0, .slice none 0 0, .slice none 0 0, .slice none 0 0, .slice none 0 0, .slice none 0 0, .slice none 0 0, .slice none 0 0, .slice none 0 0, .slice none 0 0, .slice none 0 0, .slice none 0 0, .slice none 0 0, .slice none 0 0] := by kernel_rfl
theorem wp_book {o : Oper} {a : Act} {w : World} {K : Act → World → Prop} {Q : Exit → Act → World → Prop} (ho : o.op = .build 39 #[]) (h : K (a.put o.dst (.agg #[.int .i64 0, .int .i64 0, .slice none 0 0, .slice none 0 0, .slice none 0 0, .slice none 0 0, .slice none 0 0, .slice none 0 0, .slice none 0 0, .slice none 0 0, .slice none 0 0, .slice none 0 0, .slice none 0 0, .slice none 0 0, .slice none 0 0, .slice none 0 0, .slice none 0 0, .slice none 0 0, .slice none 0 0, .slice none 0 0, .slice none 0 0, .slice none 0 0, .slice none 0 0, .slice none 0 0, .slice none 0 0, .slice none 0 0, .slice none 0 0, .slice none 0 0, .slice none 0 0, .slice none 0 0, .slice none 0 0, .slice none 0 0, .slice none 0 0, .slice none 0 0, .slice none 0 0, .slice none 0 0, .slice none 0 0, .slice none 0 0, .slice none 0 0, .slice none 0 0, .slice none 0 0])) w) : o.wp Tryz.prog a w K Q := by
  have e : (((#[] : Array (Nat × Operand)).map fun (i, x) => (i, a.eval x)).toList) = [] := by simp
  refine wp_build 39 #[] ho (by rw [e, built_book]; rfl) ?_
  rw [e, built_book]
  exact h
theorem Bk.new (w : World) : Bk (w.alloc bookO) w.heap.size (bookCs 0 (.slice none 0 0) (.slice none 0 0) (.slice none 0 0)) :=
  OC.mk rfl _ (heap_alloc_new w _) (Nat.le_refl _) (by rw [maxLen_is]; omega) rfl rfl
theorem BookB.new (w : World) (base : Nat) : BookB (w.alloc bookO) w.heap.size base 0 none 0 none 0 [] [] [] :=
  ⟨Bk.new w, LS.nil _ _ _ _ _, LS.nil _ _ _ _ _, fun a b h => by cases h⟩
theorem Finish_k (gk base m cb cw : Nat) (Ab Aw : Option Addr) (ps pw : List Slot) (xss : List (List UInt8)) (w : World) (hB : BookB w gk base m Ab cb Aw cw ps pw xss) (hs : ∀ xs ∈ xss, xs.length ≤ 900000) (m1 : m ≤ 900000) (hb : base ≤ w.heap.size) :
    Calls Tryz.prog 20 #[.pointer (some ⟨gk, 0, none⟩)] w fun e w' => e = .returned (.bool true) ∧ Out (fun g => g = gk ∨ InPs ps g) w w' :=
  Finish_b gk base m cb cw Ab Aw ps _ xss w hB.bk hB.ls hB.lw.read.rm hs m1 hb
theorem InPs.base {w : World} {base e sz rt n c : Nat} {A : Option Addr} {ps : List Slot} {css : List (List Value)} (h : LS w base e sz rt A n c ps css) {g : Nat} (q : InPs ps g) : base ≤ g := by
  obtain ⟨p, hp, a, ha, rfl⟩ := q
  exact (h.lt p hp a ha).2
theorem LS.fresh {w : World} {base e sz rt n c : Nat} {A : Option Addr} {ps : List Slot} {css : List (List Value)} (h : LS w base e sz rt A n c ps css) {B : Option Addr} {lo : Nat} (hl : w.heap.size ≤ lo) (hB : ∀ b, B = some b → lo ≤ b.block) : ∀ p ∈ ps, ∀ a b, p.1 = some a → B = some b → a.block ≠ b.block := by
  intro p hp a b ha hb q
  have h1 := (h.lt p hp a ha).1
  have h2 := hB b hb
  omega
end Go.Proofs.YtmeakhiiebeneaaGreatDoor
