/- coppicekept.Book: Ints, whatever else the book holds. -/
import Derived.Test.YtmeakhiiebeneaaGreatDoorJk
import Derived.Test.YtmeakhiiebeneaaGreatDoorJNg
namespace Go.Proofs.YtmeakhiiebeneaaGreatDoor
open Go.RowKit

set_option maxRecDepth 100000 in
set_option maxHeartbeats 4000000 in
theorem Ints_v (gk base m : Nat) (bs : List Value) (r s : Row) (xss : List (List Int)) (A : Option Addr) (n c : Nat) (xs : List Int) (w : World) (hk : Bk w gk bs) (e2 : bs[5]? = some (r.v m)) (e3 : bs[6]? = some (s.v m)) (hB : Kp w base 3 1 63 m r s (xss.map i64s) (xss.map i64s)) (o : GI w base A n c xs) (hne : ∀ p ∈ r.ps, ∀ a b, p.1 = some a → A = some b → a.block ≠ b.block) (hn : n ≤ 900000) (hm : m ≤ 800000) (hb : base ≤ w.heap.size) :
    Calls Tryz.prog 42 #[.pointer (some ⟨gk, 0, none⟩), .slice A n c] w fun e w' => (∃ v, e = .returned v) ∧ KeptV gk base 3 1 63 m 5 r s (xss.map i64s) (xss.map i64s) A n c (i64s xs) (i64s xs) bs w w' := by
  obtain ⟨Ab, cb, ps⟩ := r
  obtain ⟨Aw, cw, pw⟩ := s
  obtain ⟨ls, lw, ap⟩ := hB
  simp only [Row.v] at *
  have HE2 := hideIt e2
  have HE3 := hideIt e3
  have HNE := hideIt hne
  have HAP := hideIt ap
  have HWL := hideIt lw.lt
  have HL := hideIt (show 5 < bs.length ∧ 6 < bs.length from ⟨(List.getElem?_eq_some_iff.1 e2).1, (List.getElem?_eq_some_iff.1 e3).1⟩)
  clear hne ap e2 e3
  go_enter Tryz.func42, Tryz.ntmps42
  have ba := below1 w (.cells #[.slice A n c] 63)
  have bk1 := hk.below ba
  have ls1 := ls.below ba
  have lw1 := lw.below ba
  have o1 := GC.below o ba
  have R1 := svY_cell w (A, n, c)
  have b1 := Nat.le_trans hb ba.size
  have c2 := OC.cell hk 5 _ HE2.out
  have c21 := OC.cell bk1 5 _ HE2.out
  go_upto_region 1 with (first
    | ((with_reducible refine wpYx_app rfl (.tmp 8) (.tmp 10) rfl base _ _ _ _ rfl ls1.row _ (A, n, c) rfl R1 (by omega) b1 ?_); intro g5 c5 w5 q5 Q5 o5 k5; have ZA : (w.alloc (.cells #[.slice A n c] 63)).heap.size = w.heap.size + 1 := (by simp); have st := row_push (F := 5) (by decide) (by decide) (by decide) bk1 ls1 o1 HNE.out k5 o5 q5; have cc5 := OC.cell st.1 5 _ HE2.out; have ff5 := OC.free st.1 5))
  obtain ⟨-, hk6, ls6, ou6⟩ := st
  have lw6 := lw1.beside ls1 (by decide) (by decide) (by decide) bk1 HAP.out ou6
  have o6 : GI (w5.setCell ⟨gk, 5, none⟩ (.slice (some ⟨g5, 0, none⟩) (m + 1) c5)) base A n c xs := Kp.keepGC (r := ⟨Ab, cb, ps⟩) (s := ⟨Aw, cw, pw⟩) ⟨ls1, lw1, HAP.out⟩ bk1 ou6.rws1 o1 (by decide) (by decide)
  have ou : Out (Rws gk Ab Aw) w (w5.setCell ⟨gk, 5, none⟩ (.slice (some ⟨g5, 0, none⟩) (m + 1) c5)) := (Out.of_below ba).trans ou6.rws1 (fun _ q => Or.inl q)
  have NEW5 : Hid (∀ g, AtB (some (⟨g5, 0, none⟩ : Addr)) g → AtB Ab g ∨ w.heap.size ≤ g) := hideIt fun g hg => by
    obtain ⟨a, ea, rfl⟩ := hg
    cases ea
    rcases Q5 with ⟨b, z, e2⟩ | z
    · exact Or.inl ⟨b, z, e2.symm⟩
    · exact Or.inr (by simp only; omega)
  have APN : Hid (∀ g, AtB Aw g → g5 ≠ g) := hideIt fun g hg e => by
    subst e
    have h1 : g5 < w.heap.size := by obtain ⟨a, ea, e⟩ := hg; have := (lw.row.lt a ea).1; omega
    rcases Q5 with ⟨a, z, e2⟩ | z
    · exact HAP.out g5 ⟨a, z, e2.symm⟩ hg
    · omega
  clear ba bk1 ls1 lw1 o1 R1 c2 c21 cc5 ff5 k5 o5 ou6 hk ls lw o
  have z6 := Nat.le_trans hb ou.size
  have HS6 : Hid ((bs.set 5 (.slice (some ⟨g5, 0, none⟩) (m + 1) c5))[6]? = some (.slice Aw m cw)) := hideIt (by rw [List.getElem?_set, if_neg (by decide)]; exact HE3.out)
  generalize w5.setCell ⟨gk, 5, none⟩ (.slice (some ⟨g5, 0, none⟩) (m + 1) c5) = w6 at hk6 ls6 lw6 o6 ou z6 ⊢
  have cw6 := OC.cell hk6 6 _ HS6.out
  have cw6d : w6.drew.cell? ⟨gk, 6, none⟩ = some (.slice Aw m cw) := cw6
  have bd := drew1 w6
  have od : RI w6.drew A n c xs := GC.read (GC.below o6 bd)
  have zd : base ≤ w6.drew.heap.size := z6
  clear ZA Q5
  go_region_law
    (first
      | (refine stepYx_app rfl (.tmp 18) (.tmp 21) rfl base _ _ _ _ rfl lw8.row _ (some ⟨g7, 0, none⟩, n, c7) rfl R8 (by omega) z8 ?_; intro g9 c9 w9 q9 Q9 o9 k9; have st9 := row_push (F := 6) (by decide) (by decide) (by decide) bk8 lw8 S8 NE8.out k9 o9 q9; have cc9 := OC.cell st9.1 6 _ HS6.out; have ff9 := OC.free st9.1 6)
      | (refine step_of rfl ?_; go_simp; go_at_call 30; ((with_reducible refine (Ints_calls _ _ _ _ _ od (by omega)).mono ?_); rintro en w7 ⟨g7, c7, rfl, s7, o7, x7⟩; have bd7 := blw_step bd x7; have cw7 := OC.cell (hk6.below bd7) 6 _ HS6.out; have ba8 := below1 w7 (.cells #[.slice (some ⟨g7, 0, none⟩) n c7] 63); have bd8 := blw_step bd7 ba8; have bk8 := hk6.below bd8; have ls8 := ls6.below bd8; have lw8 := lw6.below bd8; have S8 : GC _ base 3 1 (some ⟨g7, 0, none⟩) n c7 (i64s xs) := GC.below (GC.of o7 (Nat.le_trans zd s7)) ba8; have R8 := svY_cell w7 (some ⟨g7, 0, none⟩, n, c7); have z8 := Nat.le_trans z6 bd8.size; have cw8 := OC.cell bk8 6 _ HS6.out; have cw8a : (w7.alloc (.cells #[.slice (some ⟨g7, 0, none⟩) n c7] 63)).cell? ⟨gk, 6, none⟩ = some (.slice Aw m cw) := cw8; have NE8 : Hid (∀ p ∈ pw, ∀ a b, p.1 = some a → (some ⟨g7, 0, none⟩ : Option Addr) = some b → a.block ≠ b.block) := hideIt (fun p hp a b ha hb' e => by cases hb'; have h1 := (HWL.out p hp a ha).1; have h2 := ou.size; have h3 : w6.heap.size ≤ g7 := s7; have h4 : a.block = g7 := e; omega))))
  all_goals
    obtain ⟨-, bkA, lsA, ouA⟩ := st9
    have z9 := bd8.size
    have ls9 := ls8.beside lw8 (by decide) (by decide) (by decide) bk8 (fun g q z => APN.out g q (by obtain ⟨a, ea, e⟩ := z; cases ea; exact e)) ouA
    have OU := (ou.step bd8).rws2 ouA
    have AP : Hid (∀ g, AtB (some (⟨g5, 0, none⟩ : Addr)) g → ¬ AtB (some (⟨g9, 0, none⟩ : Addr)) g) := hideIt (fun g h1 h2 => by
      obtain ⟨a, ha, ea⟩ := h1
      obtain ⟨b, hb', eb⟩ := h2
      cases ha
      cases hb'
      have e : g5 = g9 := ea.trans eb.symm
      rcases Q9 with ⟨b, z, e2⟩ | z
      · exact APN.out g9 ⟨b, z, e2.symm⟩ e
      · have := (ls8.row.lt ⟨g5, 0, none⟩ rfl).1
        have z' : (w7.alloc (.cells #[.slice (some ⟨g7, 0, none⟩) n c7] 63)).heap.size ≤ g9 := z
        simp only at this
        omega)
    have NEW9 : Hid (∀ g, AtB (some (⟨g9, 0, none⟩ : Addr)) g → AtB Aw g ∨ w.heap.size ≤ g) := hideIt fun g hg => by
      obtain ⟨a, ea, rfl⟩ := hg
      cases ea
      rcases Q9 with ⟨b, z, e2⟩ | z
      · exact Or.inl ⟨b, z, e2.symm⟩
      · have z' : (w7.alloc (.cells #[.slice (some ⟨g7, 0, none⟩) n c7] 63)).heap.size ≤ g9 := z
        have := ou.size
        exact Or.inr (by simp only; omega)
    have FIN : Hid (KeptV gk base 3 1 63 m 5 ⟨Ab, cb, ps⟩ ⟨Aw, cw, pw⟩ (xss.map i64s) (xss.map i64s) A n c (i64s xs) (i64s xs) bs w _) := hideIt ⟨⟨some ⟨g5, 0, none⟩, c5, ps ++ [(A, n, c)]⟩, ⟨some ⟨g9, 0, none⟩, c9, pw ++ [(some ⟨g7, 0, none⟩, n, c7)]⟩, (some ⟨g7, 0, none⟩, n, c7), bkA, ⟨ls9, lsA, AP.out⟩, rfl, rfl, (fun a ha => by cases ha; exact Nat.le_trans ou.size s7), NEW5.out, NEW9.out, OU⟩
    clear lsA ls9 bkA ouA bd8 bk8 ls8 lw8 S8 R8 z8 cw8 cw8a cc9 ff9 k9 o9
    go_wp2
    go_end0
    exact ⟨⟨_, rfl⟩, FIN.out⟩
end Go.Proofs.YtmeakhiiebeneaaGreatDoor
