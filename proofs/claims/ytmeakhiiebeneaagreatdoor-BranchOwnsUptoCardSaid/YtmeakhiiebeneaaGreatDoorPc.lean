/- branch.putKid, coppiceref5.two; laws for an array variable. -/
import Derived.Test.YtmeakhiiebeneaaGreatDoorPb
import Derived.Test.YtmeakhiiebeneaaGreatDoorM3
import Derived.Deep.RegionHeld3
namespace Go.Proofs.YtmeakhiiebeneaaGreatDoor
open Go.RowKit

set_option maxRecDepth 100000 in
/-- A kid in a block. -/
structure KdAt (w : World) (g : Nat) (x y : Int) : Prop where
  c0 : w.cell? ⟨g, 0, none⟩ = some (.int .i64 x)
  c1 : w.cell? ⟨g, 1, none⟩ = some (.int .i64 y)
  lt : g < w.heap.size
set_option maxRecDepth 100000 in
theorem KdAt.below {w w' : World} {g : Nat} {x y : Int} (q : KdAt w g x y) (b : Below w.heap.size w w') : KdAt w' g x y :=
  ⟨(b.cell (p := ⟨g, 0, none⟩) q.lt).trans q.c0, (b.cell (p := ⟨g, 1, none⟩) q.lt).trans q.c1, Nat.lt_of_lt_of_le q.lt b.size⟩
set_option maxRecDepth 100000 in
theorem KdAt.new (w : World) (t : TypeId) (x y : Int) : KdAt (w.alloc (.cells #[.int .i64 x, .int .i64 y] t)) w.heap.size x y := ⟨by simp, by simp, by simp⟩
set_option maxRecDepth 100000 in
theorem Put32_at (l : Nat) (A : Option Addr) (n c : Nat) (xs : List UInt8) (x : Nat) (w : World) (hx : RB w A n c xs) (hl : n + 4 = l) (hb : n ≤ 140737488355300) (hxx : Hid (x < 256 ^ 4)) :
    Calls Tryz.prog 80 #[.slice A n c, .int .u32 (x : Int)] w fun e w' => ∃ g c', e = .returned (.slice (some ⟨g, 0, none⟩) l c') ∧ w.heap.size ≤ g ∧ OB w' g l c' (xs ++ leB x 4) ∧ Below w.heap.size w w' := by
  subst hl
  exact Put32_calls A n c xs x w hx hb hxx.out

set_option maxRecDepth 100000 in
set_option maxHeartbeats 4000000 in
theorem putKid_nat (l : Nat) (A : Option Addr) (n c : Nat) (xs : List UInt8) (x y : Nat) (w : World) (hx : RB w A n c xs) (hl : n + 8 = l) (hb : n ≤ 1000000) (h1 : Hid (x < 256 ^ 4)) (h2 : Hid (y < 256 ^ 4)) :
    Calls Tryz.prog 103 #[.slice A n c, .agg #[.int .i64 (x : Int), .int .i64 (y : Int)]] w fun e w' => ∃ g c', e = .returned (.slice (some ⟨g, 0, none⟩) l c') ∧ w.heap.size ≤ g ∧ OB w' g l c' (xs ++ (leB x 4 ++ leB y 4)) ∧ Below w.heap.size w w' := by
  have e1 : IntKind.u32.wrap (x : Int) = (x : Int) := u32_of x h1.out
  have e2 : IntKind.u32.wrap (y : Int) = (y : Int) := u32_of y h2.out
  have hm : n + 4 ≤ 140737488355300 := by omega
  have hb' : n ≤ 140737488355300 := by omega
  have hl2 : n + 4 + 4 = l := by omega
  go_enter Tryz.func103, Tryz.ntmps103
  go_upto_region 1 with fail
  have q0 := KdAt.new w 124 x y
  have b0 := below1 w (.cells #[.int .i64 (x : Int), .int .i64 (y : Int)] 124)
  generalize hw1 : w.alloc (.cells #[.int .i64 (x : Int), .int .i64 (y : Int)] 124) = w1 at q0 b0 ⊢
  clear hw1
  have od := (hx.below b0).below (drew1 w1)
  have qd := q0.below (drew1 w1)
  have bd : Below w.heap.size w w1.drew := b0.trans ((drew1 w1).mono b0.size)
  have a0 := qd.c0
  have a1 := qd.c1
  clear q0 b0
  go_region_held3 (fun w' => w'.cell? ⟨w.heap.size, 0, none⟩ = some (.int .i64 (x : Int)) ∧ w'.cell? ⟨w.heap.size, 1, none⟩ = some (.int .i64 (y : Int))) (first | exact ⟨c4_0, c4_1⟩ | exact ⟨c3_0, c3_1⟩ | exact ⟨a0, a1⟩ | go_keep)
    (first
      | (go_at_call 80; (with_reducible refine (Put32_at l _ _ _ _ y _ o3.read hl2 hm h2).mono ?_); rintro en w4 ⟨g4, d4, rfl, s4, o4, x4⟩; have q4 := q3.below x4; have b4 := b3.trans (x4.mono b3.size); have c4_0 := q4.c0; have c4_1 := q4.c1)
      | (go_at_call 80; (with_reducible refine (Put32_at (n + 4) _ _ _ _ x _ od rfl hb' h1).mono ?_); rintro en w3 ⟨g3, d3, rfl, s3, o3, x3⟩; have q3 := qd.below x3; have b3 := bd.trans (x3.mono bd.size); have c3_0 := q3.c0; have c3_1 := q3.c1))
  all_goals
    have s5 := Nat.le_trans b3.size s4
    rw [List.append_assoc] at o4
    clear od qd bd a0 a1 c3_0 c3_1 c4_0 c4_1 x3 s3 x4 s4 o3 q3 b3 q4
    go_wp2
    go_ret
    exact ⟨g4, d4, rfl, s5, o4, b4⟩
set_option maxRecDepth 100000 in
theorem putKid_calls (l : Nat) (A : Option Addr) (n c : Nat) (xs : List UInt8) (k1 k2 : Int) (w : World) (hx : RB w A n c xs) (hl : n + 8 = l) (hb : n ≤ 1000000) (hk : kidOk (k1, k2) = true) :
    Calls Tryz.prog 103 #[.slice A n c, .agg #[.int .i64 k1, .int .i64 k2]] w fun e w' => ∃ g c', e = .returned (.slice (some ⟨g, 0, none⟩) l c') ∧ w.heap.size ≤ g ∧ OB w' g l c' (xs ++ kidB (k1, k2)) ∧ Below w.heap.size w w' := by
  obtain ⟨h1, h2, h3, h4⟩ := kid_toNat hk
  have := putKid_nat l A n c xs k1.toNat k2.toNat w hx hl hb h3 h4
  simp only at h1 h2
  rw [h1, h2] at this
  exact this

set_option maxRecDepth 100000 in
theorem run_alloc (P : Program) (w : World) (t : TypeId) (i0 : TypeInfo) (cs : Array Value) (hi : P.info? t = some i0) (hz : i0.zero = some (.agg cs)) : (Instr.alloc t true (.tuple #[])).run P w = .ok (.pointer (some ⟨w.heap.size, 0, none⟩)) (w.alloc (.cells cs t)) := by
  simp [Instr.alloc, zeroValue, typeInfo, hi, hz, newVar, newRow, Value.cells]
section
variable {w : World} {ops : Array Oper} {rest : List Oper} {o : Oper} {a : Act} {Q : Exit → Act → World → Prop}
set_option maxRecDepth 100000 in
/-- copy into a place of a block of bytes, whatever type the block bears. -/
theorem wpE_copy (hgd : o.guard = none) (d s : Operand) (ho : o.op = .call { callee := .builtin .copy, args := #[d, s], argTypes := #[40, 40] })
    (D : Option Addr) (dl dc : Nat) (hd : a.eval d = .slice D dl dc) (A : Option Addr) (m k : Nat) (hs : a.eval s = .slice A m k)
    (e g n c off : Nat) (xs ys : List UInt8) (hown : OC w e 1 g n c (u8s xs)) (hr : RB w A m k ys) (j : Nat) (hj : j = min m dl) (hD : 0 < j → D = some ⟨g, off, none⟩) (hfit : off + j ≤ n)
    (h : ∀ w', OC w' e 1 g n c (u8s (xs.take off ++ (ys.take j ++ xs.drop (off + j)))) → w.grownBy w' (some g) → wpList Tryz.prog ops Q rest (a.put o.dst (.int .i64 j)) w') :
    wpList Tryz.prog ops Q (o :: rest) a w := by
  have hyl := hr.len
  have hxl : xs.length = n := by have := hown.1; rw [u8s_length] at this; omega
  by_cases h0 : j = 0
  · refine wpList_copy_nothing hgd d s 40 40 ho 5 Tryz.underlying40 info1_u8 D A dl dc m k hd hs (by show min m dl = 0; omega) ?_
    subst h0
    have := h w (by simpa using hown) (World.grownBy.refl _ _)
    simpa [goInt] using this
  · have hm : 0 < m := by omega
    obtain ⟨ad, rfl, hc⟩ := RC.drop0 hr hm
    have hDD := hD (by omega)
    subst hDD
    obtain ⟨hl, cur, hg, r1, r2, r3, r4⟩ := OC.block hown
    rw [Nat.mul_one] at r3 r4 hl
    refine wpList_copy_own hgd d s 40 40 ho 5 Tryz.underlying40 info1_u8 g off dl dc ad m k hd hs cur e hg (u8s (ys.take j)) (by rw [u8s_length, List.length_take, hyl]; show min j m = min m dl; first | omega | (subst hj; omega))
      (fun i u hu => hc i u (by
        rw [← u8s_take, List.getElem?_take] at hu
        split at hu
        · exact hu
        · cases hu)) (by rw [u8s_length, List.length_take]; omega) (u8s_one _) ?_
    have hjl : (u8s (ys.take j)).length = j := by rw [u8s_length, List.length_take]; omega
    have hcl : cur.toList.length = c := by rw [Array.length_toList]; exact r3
    rw [hjl]
    refine h _ (OC.mk (by simp [u8s_length]; omega) _ (setRow_heap w g cur _ e _ hg) r1 r2 ?_ ?_) ⟨rfl, rfl, rfl, by simp, fun q _ hq => setRow_other w g q _ (fun e => hq (by simp [e]))⟩
    · simp only [List.size_toArray, List.length_append, List.length_take, List.length_drop, hjl, hcl]
      omega
    · have hsp := splice_take (u8s xs) (cur.toList.drop n) (u8s (ys.take j)) off n (by rw [u8s_length]; exact hxl) (by rw [hjl]; exact hfit)
      have e3 : u8s xs ++ cur.toList.drop n = cur.toList := by rw [← r4, List.take_append_drop]
      rw [hjl, e3, u8s_take, u8s_drop] at hsp
      rw [Nat.mul_one, u8s_append, u8s_append]
      exact hsp
set_option maxRecDepth 100000 in
theorem info_page : (Tryz.prog.info? 128).map (·.zero) = some (some (.agg (Array.replicate 4092 (.int .u8 0)))) := by kernel_rfl
set_option maxRecDepth 100000 in
/-- var body [4092]byte -/
theorem wpP_alloc (hgd : o.guard = none) (hop : o.op = Op.alloc 128)
    (h : ∀ g w', w.heap.size ≤ g → OC w' 128 1 g 4092 4092 (u8s (zeros 4092)) → w.grownBy w' none → wpList Tryz.prog ops Q rest (a.put o.dst (.pointer (some ⟨g, 0, none⟩))) w') : wpList Tryz.prog ops Q (o :: rest) a w := by
  obtain ⟨i0, hi, hz⟩ : ∃ i0, Tryz.prog.info? 128 = some i0 ∧ i0.zero = some (.agg (Array.replicate 4092 (.int .u8 0))) := by
    have := info_page
    cases hh : Tryz.prog.info? 128 with
    | none => rw [hh] at this; cases this
    | some i => rw [hh] at this; exact ⟨i, rfl, Option.some.inj this⟩
  refine wpList_plain hgd fun K hK' => ?_
  unfold Oper.wp
  have hr := run_alloc Tryz.prog w _ i0 _ hi hz
  simp [execOp, hop, hr, Result.andThen]
  refine hK' _ _ (h _ _ (Nat.le_refl _) (OC.mk (by rw [u8s_length, zeros_length]) _ (heap_alloc_new w _) (Nat.le_refl _) (by rw [maxLen_is]; omega) (by rw [Array.size_replicate]) ?_) (World.grownBy_alloc w _ none))
  rw [Array.toList_replicate, Nat.mul_one, List.take_of_length_le (by rw [List.length_replicate]; exact Nat.le_refl _)]
  exact (u8s_zeros 4092).symm
end
end Go.Proofs.YtmeakhiiebeneaaGreatDoor
/- Laws: a cut s[p:], s[:p] of bytes; Put16, PutV with the number told apart. -/
namespace Go.Proofs.YtmeakhiiebeneaaGreatDoor
open Go.RowKit

set_option maxRecDepth 100000 in
theorem RB.from_ {w : World} {A : Option Addr} {n c : Nat} {xs : List UInt8} (h : RB w A n c xs) (p d : Nat) (hp : p ≤ n) (hd : n - p = d) : RB w (if c = p then A else A.map (·.add p)) d (c - p) (xs.drop p) := by
  have hc := RC.le h
  have hl := h.len
  subst hd
  have := h.cut (A' := if c = p then A else A.map (·.add p)) p n c hp (Nat.le_refl _) hc (Nat.le_refl _) (fun e => by rw [if_neg e]) (fun e => by
    by_cases hcp : c = p
    · exact Or.inl hcp
    · rw [if_neg hcp] at e
      cases A with
      | none => exact Or.inr rfl
      | some ad => cases e)
  rwa [List.take_of_length_le (by rw [List.length_drop]; omega)] at this
set_option maxRecDepth 100000 in
theorem elem_bytes : Tryz.prog.elem 40 = 5 := by kernel_rfl
section
variable {w : World} {ops : Array Oper} {rest : List Oper} {o : Oper} {a : Act} {Q : Exit → Act → World → Prop}
set_option maxRecDepth 100000 in
/-- s[p:] -/
theorem wpS_from (hgd : o.guard = none) (x lo : Operand) (hop : o.op = Op.slice 40 x (some lo) none none) (A : Option Addr) (n c : Nat) (xs : List UInt8) (hx : a.eval x = .slice A n c) (hr : RB w A n c xs)
    (z : Int) (p d : Nat) (hlo : a.eval lo = .int .i64 z) (hz : z = (p : Int)) (hp : p ≤ n) (hd : n - p = d)
    (h : ∀ A' c', RB w A' d c' (xs.drop p) → wpList Tryz.prog ops Q rest (a.put o.dst (.slice A' d c')) w) : wpList Tryz.prog ops Q (o :: rest) a w := by
  have hm := RC.le hr
  refine wpList_plain hgd fun K hK' => ?_
  have hrun : (Instr.sliceAt 40 (.slice A n c) (some (.int .i64 z)) none none).run Tryz.prog w = .ok (.slice (if c = p then A else A.map (·.add p)) d (c - p)) w := by
    subst hz hd
    have h1 : (0 : Int) ≤ (p : Int) ∧ (p : Int) ≤ (n : Int) := by omega
    rw [run_sliceAt_slice _ _ _ _ _ _ Tryz.underlying40, run_slice_l _ _ _ _ _ Tryz.underlying40 _ _ h1.1 h1.2]
    simp [sliced, elem_bytes]
  unfold Oper.wp
  simp [execOp, hop, hx, hlo, hrun, Result.andThen]
  exact hK' _ _ (h _ _ (hr.from_ p d hp hd))
set_option maxRecDepth 100000 in
/-- s[:p] -/
theorem wpS_to (hgd : o.guard = none) (x hi : Operand) (hop : o.op = Op.slice 40 x none (some hi) none) (A : Option Addr) (n c : Nat) (xs : List UInt8) (hx : a.eval x = .slice A n c) (hr : RB w A n c xs)
    (z : Int) (p : Nat) (hhi : a.eval hi = .int .i64 z) (hz : z = (p : Int)) (hp : p ≤ n)
    (h : RB w A p c (xs.take p) → wpList Tryz.prog ops Q rest (a.put o.dst (.slice A p c)) w) : wpList Tryz.prog ops Q (o :: rest) a w := by
  have hm := RC.le hr
  refine wpList_plain hgd fun K hK' => ?_
  have hrun : (Instr.sliceAt 40 (.slice A n c) none (some (.int .i64 z)) none).run Tryz.prog w = .ok (.slice A p c) w := by
    subst hz
    have h1 : (0 : Int) ≤ (p : Int) ∧ (p : Int) ≤ (c : Int) := by omega
    rw [run_sliceAt_slice _ _ _ _ _ _ Tryz.underlying40, run_slice_h _ _ _ _ _ Tryz.underlying40 _ _ h1.1 h1.2]
    simp [sliced, elem_bytes]
    cases A with
    | none => simp
    | some ad => rw [Option.map_some, Addr.add_zero']; exact fun _ => rfl
  unfold Oper.wp
  simp [execOp, hop, hx, hhi, hrun, Result.andThen]
  exact hK' _ _ (h (hr.take p hp))
end
set_option maxRecDepth 100000 in
theorem Put16_of (l : Nat) (A : Option Addr) (n c : Nat) (xs : List UInt8) (z : Int) (x : Nat) (w : World) (hx : RB w A n c xs) (hl : n + 2 = l) (hb : n ≤ 1000000) (hz : z = (x : Int)) (hxx : x < 65536) :
    Calls Tryz.prog 71 #[.slice A n c, .int .u16 z] w fun e w' => ∃ g c', e = .returned (.slice (some ⟨g, 0, none⟩) l c') ∧ w.heap.size ≤ g ∧ OB w' g l c' (xs ++ leB x 2) ∧ Below w.heap.size w w' := by
  subst hl hz
  exact Put16_calls A n c xs x w hx (by omega) (Nat.lt_of_lt_of_eq hxx (by decide))
set_option maxRecDepth 100000 in
theorem PutV_of (l : Nat) (A : Option Addr) (n c : Nat) (xs : List UInt8) (z : Int) (x : Nat) (w : World) (hx : RB w A n c xs) (hl : n + vl x = l) (hb : n ≤ 1000000) (hz : z = (x : Int)) (hxx : x ≤ 1000000) :
    Calls Tryz.prog 72 #[.slice A n c, .int .u64 z] w fun e w' => ∃ g c', e = .returned (.slice (some ⟨g, 0, none⟩) l c') ∧ w.heap.size ≤ g ∧ OB w' g l c' (xs ++ vF 9 x) ∧ Below w.heap.size w w' := by
  subst hz
  have hn := hx.len
  refine (PutV_calls A n c xs x w hx (by omega) (by omega)).mono ?_
  rintro e w' ⟨g, m, c', rfl, s, o, b⟩
  have := o.len
  rw [List.length_append, hn] at this
  obtain rfl : l = m := by rw [← hl, ← this]; rfl
  exact ⟨g, c', rfl, s, o, b⟩
end Go.Proofs.YtmeakhiiebeneaaGreatDoor
