/- Words: slices of ints; a row that grows from nothing (GC); append onto a block of which all is known. -/
import Derived.Test.YtmeakhiiebeneaaGreatDoorB
import Derived.WalkKit
import Derived.Test.YtmeakhiiebeneaaGreatDoorV
import Derived.Laws.BytesArg
import Derived.Deep.RegionHeld3
namespace Go.Proofs.YtmeakhiiebeneaaGreatDoor
open Go.RowKit

/-! ### ints -/
def i64s (l : List Int) : List Value := l.map (.int .i64)
theorem i64s_length (l : List Int) : (i64s l).length = l.length := by simp [i64s]
theorem i64s_append (l m : List Int) : i64s (l ++ m) = i64s l ++ i64s m := by simp [i64s]
theorem i64s_get (l : List Int) (j : Nat) (h : j < l.length) : (i64s l)[j]? = some (.int .i64 l[j]) := by simp [i64s, h]
theorem i64s_one (l : List Int) : ∀ u ∈ i64s l, u.oneCell' = true := by
  intro u hu
  obtain ⟨_, _, rfl⟩ := List.mem_map.1 hu
  rfl
theorem i64s_take (l : List Int) (n : Nat) : (i64s l).take n = i64s (l.take n) := by simp [i64s]
/-- A slice of ints that reads as l. -/
def RI (w : World) (A : Option Addr) (n c : Nat) (l : List Int) : Prop := RC w 1 A n c (i64s l)
def OI (w : World) (g n c : Nat) (l : List Int) : Prop := OC w 3 1 g n c (i64s l)
theorem RI.len {w : World} {A : Option Addr} {n c : Nat} {l : List Int} (h : RI w A n c l) : l.length = n := by have := RC.len h; rw [i64s_length] at this; omega
theorem RI.below {w w' : World} {A : Option Addr} {n c : Nat} {l : List Int} (h : RI w A n c l) (hb : Below w.heap.size w w') : RI w' A n c l := RC.below h hb
theorem RI.nil (w : World) : RI w none 0 0 [] := ⟨rfl, Nat.le_refl _, Nat.zero_le _, fun _ => rfl, fun ad e => by cases e⟩
theorem RI.at_ {w : World} {A : Option Addr} {n c : Nat} {l : List Int} (h : RI w A n c l) (j : Nat) (hj : j < l.length) : ∃ ad, A = some ad ∧ w.cell? (ad.add j) = some (.int .i64 l[j]) := by
  obtain ⟨ad, u, e, hu, hc⟩ := RC.at_ h j (by rw [← h.len]; exact hj)
  rw [i64s_get l j hj] at hu
  injection hu with hu
  subst hu
  exact ⟨ad, e, hc⟩
theorem RI.max {w : World} {A : Option Addr} {n c : Nat} {l : List Int} (h : RI w A n c l) : n ≤ 9223372036854775807 := by
  have h1 := RC.le h; have h2 := RC.mx h; rw [maxLen_is] at h2; omega
theorem OI.read {w : World} {g n c : Nat} {l : List Int} (h : OI w g n c l) : RI w (some ⟨g, 0, none⟩) n c l := OC.read h
theorem OI.len {w : World} {g n c : Nat} {l : List Int} (h : OI w g n c l) : l.length = n := h.read.len
theorem OI.below {w w' : World} {g n c : Nat} {l : List Int} (h : OI w g n c l) (hb : Below w.heap.size w w') : OI w' g n c l := OC.below h hb
theorem OI.cell {w : World} {g n c : Nat} {l : List Int} (h : OI w g n c l) (j : Nat) (hj : j < l.length) : w.cell? ⟨g, j, none⟩ = some (.int .i64 l[j]) := OC.cell h j _ (i64s_get l j hj)
theorem info_int : (Tryz.prog.info? 3).map (fun i => (i.zero, i.size, i.bytes)) = some (some (.int .i64 0), 1, 8) := by kernel_rfl

/-! ### a row that grows -/
/-- nothing yet, or a block of the call's own. -/
def GC (w : World) (base e sz : Nat) (A : Option Addr) (n c : Nat) (cs : List Value) : Prop := w.ownsRow base e sz (.slice A n c) n cs
theorem GC.nil (w : World) (base e sz : Nat) : GC w base e sz none 0 0 [] := World.ownsRow_nil _ _ _ _
theorem GC.oc {w : World} {base e sz n c : Nat} {A : Option Addr} {cs : List Value} (h : GC w base e sz A n c cs) : (A = none ∧ n = 0 ∧ c = 0 ∧ cs = []) ∨ ∃ g, A = some ⟨g, 0, none⟩ ∧ base ≤ g ∧ OC w e sz g n c cs := by
  have h1 := h.1
  rcases h.2 with ⟨h', h2⟩ | ⟨g', cap, cur, h', hb, hg, r⟩
  · simp only [Value.slice.injEq] at h'
    obtain ⟨rfl, rfl, rfl⟩ := h'
    exact .inl ⟨rfl, rfl, rfl, List.eq_nil_of_length_eq_zero (by simpa using h1)⟩
  · simp only [Value.slice.injEq, true_and] at h'
    obtain ⟨rfl, rfl⟩ := h'
    exact .inr ⟨g', rfl, hb, OC.mk h1 cur hg r.1 r.2.1 r.2.2.1 r.2.2.2⟩
theorem GC.of {w : World} {base e sz g n c : Nat} {cs : List Value} (h : OC w e sz g n c cs) (hb : base ≤ g) : GC w base e sz (some ⟨g, 0, none⟩) n c cs := by
  obtain ⟨hl, cur, hg, r1, r2, r3, r4⟩ := h.block
  exact ⟨hl, .inr ⟨g, c, cur, rfl, hb, hg, r1, r2, r3, r4⟩⟩
theorem GC.read {w : World} {base e sz n c : Nat} {A : Option Addr} {cs : List Value} (h : GC w base e sz A n c cs) : RC w sz A n c cs := by
  rcases h.oc with ⟨rfl, rfl, rfl, rfl⟩ | ⟨g, rfl, _, o⟩
  · exact ⟨by simp, Nat.le_refl _, Nat.zero_le _, fun _ => rfl, fun ad e => by cases e⟩
  · exact o.read
theorem GC.same {w w' : World} {base e sz n c : Nat} {A : Option Addr} {cs : List Value} (h : GC w base e sz A n c cs) (hs : ∀ ad, A = some ad → Sm w w' ad.block) : GC w' base e sz A n c cs := by
  rcases h.oc with ⟨rfl, rfl, rfl, rfl⟩ | ⟨g, rfl, hb, o⟩
  · exact GC.nil _ _ _ _
  · exact GC.of (o.same (hs _ rfl)) hb
theorem GC.below {w w' : World} {base e sz n c : Nat} {A : Option Addr} {cs : List Value} (h : GC w base e sz A n c cs) (hb : Below w.heap.size w w') : GC w' base e sz A n c cs := by
  rcases h.oc with ⟨rfl, rfl, rfl, rfl⟩ | ⟨g, rfl, h2, o⟩
  · exact GC.nil _ _ _ _
  · exact GC.of (o.below hb) h2
/-- where a row's block alone is written, below the base nothing is. -/
theorem GC.under {w w' w0 : World} {base e sz n c : Nat} {A : Option Addr} {cs : List Value} (h : GC w base e sz A n c cs) (b : Below base w0 w) (hg : w.grownBy w' (A.map (·.block))) (hB : base ≤ w.heap.size) : Below base w0 w' := by
  refine b.trans (below_of_grown hg hB ?_)
  intro k hk
  rcases h.oc with ⟨rfl, rfl, rfl, rfl⟩ | ⟨g, rfl, h2, o⟩
  · cases hk
  · simp at hk; omega
/-- blocks of another type stay. -/
theorem OC.apart {w w' : World} {base e e' sz sz' n c g n' c' : Nat} {A : Option Addr} {cs cs' : List Value} (o : OC w e' sz' g n' c' cs') (h : GC w base e sz A n c cs) (hg : w.grownBy w' (A.map (·.block))) (ne : e' ≠ e) : OC w' e' sz' g n' c' cs' := by
  refine o.same (Sm.of_grown hg o.lt ?_)
  rcases h.oc with ⟨rfl, rfl, rfl, rfl⟩ | ⟨g2, rfl, h2, o2⟩
  · simp
  · simp only [Option.map_some, ne_eq, Option.some.injEq]
    rintro rfl
    obtain ⟨_, cur, q1, _⟩ := OC.block o
    obtain ⟨_, cur', q2, _⟩ := OC.block o2
    rw [q1] at q2
    injection q2 with q2
    injection q2 with _ q2
    exact ne q2
theorem GC.apart {w w' : World} {base base' e e' sz sz' n c n' c' : Nat} {A A' : Option Addr} {cs cs' : List Value} (o : GC w base' e' sz' A' n' c' cs') (h : GC w base e sz A n c cs) (hg : w.grownBy w' (A.map (·.block))) (ne : e' ≠ e) : GC w' base' e' sz' A' n' c' cs' := by
  rcases o.oc with ⟨rfl, rfl, rfl, rfl⟩ | ⟨g2, rfl, h2, o2⟩
  · exact GC.nil _ _ _ _
  · exact GC.of (o2.apart h hg ne) h2

/-- a row stays where an older block alone is written. -/
theorem GC.grown_lt {w w' : World} {base e sz n c r : Nat} {A : Option Addr} {cs : List Value} (h : GC w base e sz A n c cs) (gx : w.grownBy w' (some r)) (hr : r < base) : GC w' base e sz A n c cs := by
  rcases h.oc with ⟨rfl, rfl, rfl, rfl⟩ | ⟨g, rfl, hb, o⟩
  · exact GC.nil _ _ _ _
  · exact GC.of (o.same (Sm.of_grown gx o.lt (by simp; omega))) hb
theorem GC.lower {w : World} {base base' e sz n c : Nat} {A : Option Addr} {cs : List Value} (h : GC w base e sz A n c cs) (hb : base' ≤ base) : GC w base' e sz A n c cs := by
  rcases h.oc with ⟨rfl, rfl, rfl, rfl⟩ | ⟨g, rfl, h2, o⟩
  · exact GC.nil _ _ _ _
  · exact GC.of o (Nat.le_trans hb h2)

section
variable {P : Program} {w : World} {ops : Array Oper} {rest : List Oper} {o : Oper} {a : Act} {Q : Exit → Act → World → Prop}
/-- append of something onto a row that grows. -/
theorem wpG_app (hgd : o.guard = none) (s x : Operand) (t : TypeId) (ho : o.op = .call { callee := .builtin .append, args := #[s, x], argTypes := #[t, t] })
    (base e : Nat) (i : TypeInfo) (z : Value) (sz bytes : Nat) (ht : P.underlying t = some (.slice e)) (hi : P.info? e = some i) (hz : i.zero = some z)
    (hsize : i.size = sz) (hby : i.bytes = bytes) (hzs : z.cells.size = sz) (hsz : 0 < sz)
    (A : Option Addr) (n c : Nat) (xs : List Value) (hs : a.eval s = .slice A n c) (hown : GC w base e sz A n c xs)
    (ad : Addr) (m k : Nat) (news : List Value) (hx : a.eval x = .slice (some ad) m k) (hr : RC w sz (some ad) m k news) (h1 : ∀ u ∈ news, u.oneCell' = true) (hm : 0 < m)
    (hbytes : (n + m) * bytes ≤ 140737488355328) (h63 : n + m ≤ maxLen) (hbase : base ≤ w.heap.size)
    (h : ∀ g' c' w', base ≤ g' → OC w' e sz g' (n + m) c' (xs ++ news) → w.grownBy w' (A.map (·.block)) → wpList P ops Q rest (a.put o.dst (.slice (some ⟨g', 0, none⟩) (n + m) c')) w') :
    wpList P ops Q (o :: rest) a w := by
  refine wpList_append_own w hgd s x t ho base e i z sz bytes ht hi hz hsize hby hzs hsz (.slice A n c) n xs hs hown ad m k news hx hr.len (hr.cell ad rfl) h1 h63 hbytes hbase fun v' w' h2 h3 _ => ?_
  have hb : (Value.slice A n c).ownBlock = A.map (·.block) := by cases A <;> rfl
  rw [hb] at h3
  rcases h2.2 with ⟨h', h4⟩ | ⟨g', cap, cur, rfl, hb2, hg, r⟩
  · omega
  · exact h g' cap w' hb2 (OC.mk h2.1 cur hg r.1 r.2.1 r.2.2.1 r.2.2.2) h3
end

/-- append of ints onto a row of ints that grows. -/
theorem wpI_app {w : World} {ops : Array Oper} {rest : List Oper} {o : Oper} {a : Act} {Q : Exit → Act → World → Prop} (hgd : o.guard = none) (s x : Operand) (ho : o.op = .call { callee := .builtin .append, args := #[s, x], argTypes := #[63, 63] })
    (base : Nat) (A : Option Addr) (n c : Nat) (l : List Int) (hs : a.eval s = .slice A n c) (hown : GC w base 3 1 A n c (i64s l))
    (ad : Addr) (m k : Nat) (ys : List Int) (hx : a.eval x = .slice (some ad) m k) (hr : RI w (some ad) m k ys) (hm : 0 < m) (hb : n + m ≤ 17592186044416) (hbase : base ≤ w.heap.size)
    (h : ∀ g' c' w', base ≤ g' → OI w' g' (n + m) c' (l ++ ys) → w.grownBy w' (A.map (·.block)) → wpList Tryz.prog ops Q rest (a.put o.dst (.slice (some ⟨g', 0, none⟩) (n + m) c')) w') :
    wpList Tryz.prog ops Q (o :: rest) a w := by
  obtain ⟨i0, hi, hz0, hz1, hz2⟩ := info_parts info_int
  refine wpG_app hgd s x 63 ho base 3 i0 (.int .i64 0) 1 8 Tryz.underlying63 hi hz0 hz1 hz2 rfl (by decide) A n c (i64s l) hs hown ad m k (i64s ys) hx hr (i64s_one ys) hm (by omega) (by rw [maxLen_is]; omega) hbase ?_
  intro g' c' w' h1 h2 h3
  rw [← i64s_append] at h2
  exact h g' c' w' h1 h2 h3
/-- a new cell with one int. -/
theorem RI.one (w : World) (z : Int) : RI (w.alloc (.cells #[.int .i64 z] 3)) (some ⟨w.heap.size, 0, none⟩) 1 1 [z] :=
  OC.read (e := 3) (OC.mk rfl _ (heap_alloc_new w _) (Nat.le_refl _) (by rw [maxLen_is]; omega) rfl rfl)

/-! ### bytes, all of a block known -/
section
variable {w : World} {ops : Array Oper} {rest : List Oper} {o : Oper} {a : Act} {Q : Exit → Act → World → Prop}
/-- append into the room of a block of which all bytes are known. -/
theorem wpW_app (hgd : o.guard = none) (s x : Operand) (ho : o.op = .call { callee := .builtin .append, args := #[s, x], argTypes := #[40, 40] })
    (g n c : Nat) (xs : List UInt8) (hs : a.eval s = .slice (some ⟨g, 0, none⟩) n c) (hown : OB w g c c xs)
    (A : Option Addr) (m k : Nat) (ys : List UInt8) (hx : a.eval x = .slice A m k) (hr : RB w A m k ys) (hm : 0 < m) (l : Nat) (hl : n + m = l) (hfit : l ≤ c)
    (h : ∀ w', OB w' g c c (xs.take n ++ (ys ++ xs.drop l)) → w.grownBy w' (some g) → wpList Tryz.prog ops Q rest (a.put o.dst (.slice (some ⟨g, 0, none⟩) l c)) w') :
    wpList Tryz.prog ops Q (o :: rest) a w := by
  obtain ⟨i0, hi, hz0, hz1, hz2⟩ := info_parts info_u8
  obtain ⟨ad, rfl, hc⟩ := RC.drop0 hr hm
  obtain ⟨hlen, cur, hg, r1, r2, r3, r4⟩ := OC.block hown
  have hyl := hr.len
  have hxl := hown.len
  rw [Nat.mul_one] at r3
  have ecur : cur.toList = u8s xs := by rw [← r4, Nat.mul_one, List.take_of_length_le (by rw [Array.length_toList, r3]; exact Nat.le_refl _)]
  have hcl : cur.toList.length = c := by rw [Array.length_toList]; exact r3
  have hrun := run_append_room (P := Tryz.prog) w 40 o.type 5 i0 Tryz.underlying40 hi g n c cur hg ad m k (u8s ys) (by rw [hz1]; exact RC.len hr) hc (u8s_one ys) (by omega) (by rw [hz1, u8s_length, hyl]; omega)
  rw [hz1, Nat.mul_one, u8s_length, hyl, hl] at hrun
  refine wpList_plain hgd fun K hK => ?_
  unfold Oper.wp
  simp only [execOp, ho, resolve]
  simp [invoke, builtin, hs, hx, hrun, Result.andThen]
  refine hK _ _ (h _ (OC.mk ?_ _ (setRow_heap w g cur _ 5 _ hg) (Nat.le_refl _) r2 ?_ ?_) ⟨rfl, rfl, rfl, by simp, fun q _ hq => setRow_other w g q _ (fun e => hq (by simp [e]))⟩)
  · rw [u8s_length, Nat.mul_one]; simp only [List.length_append, List.length_take, List.length_drop, hyl, hxl]; omega
  · simp only [List.size_toArray, List.length_append, List.length_take, List.length_drop, hcl, u8s_length, hyl]; omega
  · have : (u8s (xs.take n ++ (ys ++ xs.drop l))).length ≤ c := by rw [u8s_length]; simp only [List.length_append, List.length_take, List.length_drop, hyl, hxl]; omega
    simp only [ecur, u8s_append, u8s_take, u8s_drop, Nat.mul_one] at this ⊢
    exact List.take_of_length_le this
end
end Go.Proofs.YtmeakhiiebeneaaGreatDoor
namespace Go.Proofs.YtmeakhiiebeneaaGreatDoor

/-- the lowest w bytes of x, the lowest first. -/
def leB : Nat → Nat → List UInt8
  | _, 0 => []
  | x, w + 1 => UInt8.ofNat (x % 256) :: leB (x / 256) w
/-- the number that bytes say, the lowest first. -/
def unle : List UInt8 → Nat
  | [] => 0
  | b :: l => b.toNat + 256 * unle l

theorem leB_length (x w : Nat) : (leB x w).length = w := by
  induction w generalizing x with
  | zero => rfl
  | succ w ih => simp [leB, ih]
theorem leB_snoc (x i : Nat) : leB x (i + 1) = leB x i ++ [UInt8.ofNat (x / 256 ^ i % 256)] := by
  induction i generalizing x with
  | zero => simp [leB]
  | succ i ih =>
    rw [leB, ih (x / 256), leB, List.cons_append, Nat.div_div_eq_div_mul, Nat.pow_succ, Nat.mul_comm (256 ^ i) 256]
theorem unle_leB (x w : Nat) : unle (leB x w) = x % 256 ^ w := by
  induction w generalizing x with
  | zero => rw [Nat.pow_zero, Nat.mod_one]; rfl
  | succ w ih =>
    have e : (UInt8.ofNat (x % 256)).toNat = x % 256 := by rw [UInt8.toNat_ofNat']; omega
    rw [leB, unle, ih, e, Nat.pow_succ, Nat.mul_comm (256 ^ w) 256, Nat.mod_mul]
theorem unle_lt (l : List UInt8) : unle l < 256 ^ l.length := by
  induction l with
  | nil => simp [unle]
  | cons b l ih =>
    have := b.toNat_lt
    rw [unle, List.length_cons, Nat.pow_succ]
    omega
theorem leB_unle (l : List UInt8) : leB (unle l) l.length = l := by
  induction l with
  | nil => rfl
  | cons b l ih =>
    have hb := b.toNat_lt
    rw [List.length_cons, leB, unle]
    have h1 : (b.toNat + 256 * unle l) % 256 = b.toNat := by omega
    have h2 : (b.toNat + 256 * unle l) / 256 = unle l := by omega
    rw [h1, h2, ih]
    congr 1
    exact UInt8.toNat_inj.1 (by rw [UInt8.toNat_ofNat']; omega)
theorem leB_mod (x w k : Nat) (h : w ≤ k) : leB (x % 256 ^ k) w = leB x w := by
  induction w generalizing x k with
  | zero => rfl
  | succ w ih =>
    obtain ⟨k, rfl⟩ : ∃ j, k = j + 1 := ⟨k - 1, by omega⟩
    have e : 256 ^ (k + 1) = 256 * 256 ^ k := by rw [Nat.pow_succ, Nat.mul_comm]
    rw [leB, leB, e, Nat.mod_mul_right_mod, Nat.mod_mul_right_div_self, ih _ _ (by omega)]
theorem leB_inj (x y w : Nat) (hx : x < 256 ^ w) (hy : y < 256 ^ w) (h : leB x w = leB y w) : x = y := by
  have := congrArg unle h
  rwa [unle_leB, unle_leB, Nat.mod_eq_of_lt hx, Nat.mod_eq_of_lt hy] at this
theorem unle_append (a b : List UInt8) : unle (a ++ b) = unle a + 256 ^ a.length * unle b := by
  induction a with
  | nil => simp [unle]
  | cons x a ih => rw [List.cons_append, unle, unle, ih, List.length_cons, Nat.pow_succ, Nat.mul_comm (256 ^ a.length) 256, Nat.mul_add, Nat.mul_assoc]; omega
theorem unle_take_succ (l : List UInt8) (k : Nat) (h : k < l.length) : unle (l.take (k + 1)) = unle (l.take k) + 256 ^ k * l[k].toNat := by
  rw [← List.take_append_getElem h, unle_append, List.length_take, Nat.min_eq_left (Nat.le_of_lt h)]
  simp [unle]
theorem unle_drop (l : List UInt8) (k : Nat) (h : k < l.length) : unle (l.drop k) = l[k].toNat + 256 * unle (l.drop (k + 1)) := by
  rw [List.drop_eq_getElem_cons h, unle]
end Go.Proofs.YtmeakhiiebeneaaGreatDoor
/- Zeros. -/
namespace Go.Proofs.YtmeakhiiebeneaaGreatDoor

def zer (n : Nat) : List UInt8 := List.replicate n 0
theorem zer_length (n : Nat) : (zer n).length = n := by simp [zer]
theorem all_zer (n : Nat) : (zer n).all (· == 0) = true := by simp [zer]
theorem zer_of_all (L : List UInt8) (h : L.all (· == 0) = true) : L = zer L.length := by
  unfold zer
  refine List.eq_replicate_iff.2 ⟨rfl, fun x hx => ?_⟩
  have := List.all_eq_true.1 h x hx
  simpa using this
end Go.Proofs.YtmeakhiiebeneaaGreatDoor
/- Shifts by whole bytes. -/
namespace Go.Proofs.YtmeakhiiebeneaaGreatDoor

theorem shift_bytes (x k : Nat) : (x : Int) / (2 : Int) ^ (8 * k) = ((x / 256 ^ k : Nat) : Int) := by
  have e : (2 : Nat) ^ (8 * k) = 256 ^ k := by rw [Nat.pow_mul]
  rw [← e, Int.natCast_ediv, Int.natCast_pow]
  rfl
end Go.Proofs.YtmeakhiiebeneaaGreatDoor
/- Plain laws of the least form of a number. No program in sight. -/
namespace Go.Proofs.YtmeakhiiebeneaaGreatDoor
open Go.RowKit

/-- The least form of x, in at most k + 1 bytes. -/
def vF : Nat → Nat → List UInt8
  | 0, x => [UInt8.ofNat x]
  | k + 1, x => if x < 128 then [UInt8.ofNat x] else UInt8.ofNat (x % 128 + 128) :: vF k (x / 128)
/-- The number that groups of seven bits say, the lowest first. -/
def un7 : List UInt8 → Nat
  | [] => 0
  | b :: l => b.toNat % 128 + 128 * un7 l
theorem vF_small (k x : Nat) (h : x < 128) : vF k x = [UInt8.ofNat x] := by
  cases k with
  | zero => rfl
  | succ k => rw [vF, if_pos h]
theorem vF_big (k x : Nat) (h : 128 ≤ x) : vF (k + 1) x = UInt8.ofNat (x % 128 + 128) :: vF k (x / 128) := by rw [vF, if_neg (by omega)]
theorem vF_length (k x : Nat) : 1 ≤ (vF k x).length ∧ (vF k x).length ≤ k + 1 := by
  induction k generalizing x with
  | zero => simp [vF]
  | succ k ih =>
    have := ih (x / 128)
    rw [vF]
    split
    · simp
    · rw [List.length_cons]; omega

/-- How many bytes at the head are 128 or more, up to k. -/
def lead : Nat → List UInt8 → Nat
  | 0, _ => 0
  | _ + 1, [] => 0
  | k + 1, b :: l => if 128 ≤ b.toNat then lead k l + 1 else 0
theorem lead_le (k : Nat) (l : List UInt8) : lead k l ≤ k ∧ lead k l ≤ l.length := by
  induction k generalizing l with
  | zero => exact ⟨Nat.le_refl _, Nat.zero_le _⟩
  | succ k ih =>
    cases l with
    | nil => exact ⟨Nat.zero_le _, Nat.le_refl _⟩
    | cons b l =>
      have := ih l
      rw [lead]
      split
      · rw [List.length_cons]; omega
      · omega
theorem lead_big (k : Nat) (l : List UInt8) (i : Nat) (h : i < lead k l) : ∃ b, l[i]? = some b ∧ 128 ≤ b.toNat := by
  induction k generalizing l i with
  | zero => rw [lead] at h; omega
  | succ k ih =>
    cases l with
    | nil => rw [lead] at h; omega
    | cons b l =>
      rw [lead] at h
      split at h
      · rename_i hb
        cases i with
        | zero => exact ⟨b, rfl, hb⟩
        | succ i =>
          obtain ⟨c, hc, h1⟩ := ih l i (by omega)
          exact ⟨c, by rw [List.getElem?_cons_succ]; exact hc, h1⟩
      · omega
theorem lead_stop (k : Nat) (l : List UInt8) (h : lead k l < k) (b : UInt8) (hb : l[lead k l]? = some b) : b.toNat < 128 := by
  induction k generalizing l with
  | zero => omega
  | succ k ih =>
    cases l with
    | nil => simp at hb
    | cons c l =>
      rw [lead] at h hb
      split at h
      · rename_i hc
        rw [if_pos hc, List.getElem?_cons_succ] at hb
        exact ih l (by omega) hb
      · rename_i hc
        rw [if_neg hc] at hb
        simp at hb
        subst hb
        omega
/-- What V answers of the bytes that are left: the number, how far it goes, the error. -/
def vOut (L : List UInt8) : Nat × Nat × Int :=
  if lead 10 L = 10 then (0, 0, 12)
  else if lead 10 L = L.length then (0, 0, 10)
  else if lead 10 L = 9 ∧ 1 < (L.getD 9 0).toNat then (0, 0, 12)
  else if 0 < lead 10 L ∧ L.getD (lead 10 L) 0 = 0 then (0, 0, 11)
  else (un7 (L.take (lead 10 L + 1)), lead 10 L + 1, 0)

theorem un7_lt (l : List UInt8) : un7 l < 128 ^ l.length := by
  induction l with
  | nil => simp [un7]
  | cons b l ih => rw [un7, List.length_cons, Nat.pow_succ]; omega
theorem un7_append (a b : List UInt8) : un7 (a ++ b) = un7 a + 128 ^ a.length * un7 b := by
  induction a with
  | nil => simp [un7]
  | cons x a ih => rw [List.cons_append, un7, un7, ih, List.length_cons, Nat.pow_succ, Nat.mul_comm (128 ^ a.length) 128, Nat.mul_add, Nat.mul_assoc]; omega
theorem un7_take_succ (l : List UInt8) (k : Nat) (h : k < l.length) : un7 (l.take (k + 1)) = un7 (l.take k) + 128 ^ k * (l[k].toNat % 128) := by
  rw [← List.take_append_getElem h, un7_append, List.length_take, Nat.min_eq_left (Nat.le_of_lt h)]
  simp [un7]
theorem un7_drop (l : List UInt8) (k : Nat) (h : k < l.length) : un7 (l.drop k) = l[k].toNat % 128 + 128 * un7 (l.drop (k + 1)) := by
  rw [List.drop_eq_getElem_cons h, un7]

theorem byte_ofNat {x : Nat} (h : x < 256) : (UInt8.ofNat x).toNat = x := by rw [UInt8.toNat_ofNat']; omega
/-- What stands at the head of a least form. -/
theorem vF_lead (k x : Nat) (h : x < 2 * 128 ^ k) (j : Nat) (hj : k < j) (rest : List UInt8) :
    lead j (vF k x ++ rest) = (vF k x).length - 1 ∧ un7 (vF k x) = x ∧ (∀ b, (vF k x ++ rest)[(vF k x).length - 1]? = some b → b.toNat < 128 ∧ (0 < (vF k x).length - 1 → b ≠ 0) ∧ ((vF k x).length - 1 = k → b.toNat < 2)) := by
  induction k generalizing x j with
  | zero =>
    obtain ⟨j, rfl⟩ : ∃ i, j = i + 1 := ⟨j - 1, by omega⟩
    have hb : (UInt8.ofNat x).toNat = x := byte_ofNat (by omega)
    refine ⟨?_, ?_, ?_⟩
    · show lead (j + 1) (UInt8.ofNat x :: rest) = 0
      rw [lead, if_neg (by rw [hb]; omega)]
    · show (UInt8.ofNat x).toNat % 128 + 128 * 0 = x
      rw [hb]; omega
    · intro b e
      have : UInt8.ofNat x = b := by simpa [vF] using e
      subst this
      rw [hb]
      exact ⟨by omega, fun q => absurd q (by simp [vF]), fun _ => by omega⟩
  | succ k ih =>
    obtain ⟨j, rfl⟩ : ∃ i, j = i + 1 := ⟨j - 1, by omega⟩
    by_cases hx : x < 128
    · have hb : (UInt8.ofNat x).toNat = x := byte_ofNat (by omega)
      rw [vF_small _ _ hx]
      refine ⟨?_, ?_, ?_⟩
      · show lead (j + 1) (UInt8.ofNat x :: rest) = 0
        rw [lead, if_neg (by rw [hb]; omega)]
      · show (UInt8.ofNat x).toNat % 128 + 128 * 0 = x
        rw [hb]; omega
      · intro b e
        have : UInt8.ofNat x = b := by simpa using e
        subst this
        rw [hb]
        exact ⟨by omega, fun q => absurd q (by simp), fun q => absurd q (by simp)⟩
    · rw [vF_big _ _ (by omega)]
      have hb : (UInt8.ofNat (x % 128 + 128)).toNat = x % 128 + 128 := byte_ofNat (by omega)
      have hp : 2 * 128 ^ (k + 1) = 128 * (2 * 128 ^ k) := by rw [Nat.pow_succ]; omega
      obtain ⟨i1, i2, i3⟩ := ih (x / 128) (by omega) j (by omega)
      have hl := vF_length k (x / 128)
      refine ⟨?_, ?_, ?_⟩
      · rw [List.cons_append, lead, if_pos (by rw [hb]; omega), i1, List.length_cons]
        omega
      · rw [un7, i2, hb]; omega
      · intro b e
        have e2 : (vF k (x / 128) ++ rest)[(vF k (x / 128)).length - 1]? = some b := by
          rw [List.cons_append, List.length_cons, show (vF k (x / 128)).length + 1 - 1 = ((vF k (x / 128)).length - 1) + 1 by omega, List.getElem?_cons_succ] at e
          exact e
        obtain ⟨k1, k2, k3⟩ := i3 b e2
        refine ⟨k1, fun _ => ?_, fun q => k3 (by rw [List.length_cons] at q; omega)⟩
        by_cases h0 : 0 < (vF k (x / 128)).length - 1
        · exact k2 h0
        · -- the form of x / 128 is one byte, and that is not zero
          intro hz
          have h1 : (vF k (x / 128)).length = 1 := by omega
          have h2 : vF k (x / 128) = [b] := by
            match hv : vF k (x / 128), h1 with
            | [c], _ =>
              rw [hv] at e2
              simp at e2
              rw [e2]
          rw [h2, hz] at i2
          simp [un7] at i2
          omega
theorem lt64 {x : Nat} (h : x < 18446744073709551616) : x < 2 * 128 ^ 9 := by
  have : 2 * 128 ^ 9 = 18446744073709551616 := by decide
  omega
/-- A least form is read back. -/
theorem vOut_form (x : Nat) (h : x < 18446744073709551616) (rest : List UInt8) : vOut (vF 9 x ++ rest) = (x, (vF 9 x).length, 0) := by
  obtain ⟨h1, h2, h3⟩ := vF_lead 9 x (lt64 h) 10 (by omega) rest
  have hl := vF_length 9 x
  have hb : ∃ b, (vF 9 x ++ rest)[(vF 9 x).length - 1]? = some b := ⟨_, List.getElem?_eq_getElem (by rw [List.length_append]; omega)⟩
  obtain ⟨b, hb⟩ := hb
  obtain ⟨k1, k2, k3⟩ := h3 b hb
  have hd : (vF 9 x ++ rest).getD ((vF 9 x).length - 1) 0 = b := by rw [List.getD_eq_getElem?_getD, hb]; rfl
  unfold vOut
  rw [h1]
  rw [if_neg (by omega), if_neg (by rw [List.length_append]; omega)]
  rw [if_neg (by
    rintro ⟨q1, q2⟩
    have := k3 q1
    have hd' := hd
    rw [q1] at hd'
    rw [hd'] at q2
    omega)]
  rw [if_neg (by
    rintro ⟨q1, q2⟩
    rw [hd] at q2
    exact k2 q1 q2)]
  have e1 : (vF 9 x).length - 1 + 1 = (vF 9 x).length := by omega
  rw [e1, List.take_left, h2]

/-- Bytes that pass are the least form of their number. -/
theorem form_of (k : Nat) : ∀ (L : List UInt8) (n : Nat), L.length = n + 1 → n ≤ k → (∀ i b, i < n → L[i]? = some b → 128 ≤ b.toNat) → (∀ b, L[n]? = some b → b.toNat < 128 ∧ (0 < n → b ≠ 0)) → vF k (un7 L) = L := by
  induction k with
  | zero =>
    intro L n hl hn _ hs
    obtain rfl : n = 0 := by omega
    match L, hl with
    | [b], _ =>
      have := (hs b rfl).1
      show [UInt8.ofNat (b.toNat % 128 + 128 * 0)] = [b]
      congr 1
      exact UInt8.toNat_inj.1 (by rw [UInt8.toNat_ofNat']; omega)
  | succ k ih =>
    intro L n hl hn hbig hs
    cases n with
    | zero =>
      match L, hl with
      | [b], _ =>
        have h1 := (hs b rfl).1
        have e : un7 [b] = b.toNat := by show b.toNat % 128 + 128 * 0 = _; omega
        rw [e, vF_small _ _ h1]
        congr 1
        exact UInt8.toNat_inj.1 (by rw [UInt8.toNat_ofNat']; omega)
    | succ n =>
      match L, hl with
      | b :: L, hl =>
        have hl' : L.length = n + 1 := by simpa using hl
        have hb := hbig 0 b (by omega) rfl
        have hb2 := b.toNat_lt
        have hrec := ih L n hl' (by omega) (fun i c hi hc => hbig (i + 1) c (by omega) (by rw [List.getElem?_cons_succ]; exact hc)) (fun c hc => ⟨(hs c (by rw [List.getElem?_cons_succ]; exact hc)).1, fun _ => (hs c (by rw [List.getElem?_cons_succ]; exact hc)).2 (by omega)⟩)
        -- the number of the rest is not zero
        have hpos : 0 < un7 L := by
          apply Nat.pos_of_ne_zero
          intro h0
          have hc : ∃ c, L[n]? = some c := ⟨_, List.getElem?_eq_getElem (by omega)⟩
          obtain ⟨c, hc⟩ := hc
          obtain ⟨s1, s2⟩ := hs c (by rw [List.getElem?_cons_succ]; exact hc)
          have hz : c = 0 := by
            have e1 : un7 L = un7 (L.take n) + 128 ^ n * (c.toNat % 128) := by
              have := un7_take_succ L n (by omega)
              rw [List.take_of_length_le (by omega)] at this
              rw [this]
              congr 3
              have := List.getElem?_eq_some_iff.1 hc
              obtain ⟨_, q⟩ := this
              rw [q]
            have e2 : 128 ^ n * (c.toNat % 128) = 0 := by omega
            have e3 : 0 < 128 ^ n := Nat.pow_pos (by decide)
            have e4 : c.toNat % 128 = 0 := by
              rcases Nat.mul_eq_zero.1 e2 with q | q
              · omega
              · exact q
            exact UInt8.toNat_inj.1 (by show c.toNat = 0; omega)
          exact s2 (by omega) hz
        rw [un7, vF_big _ _ (by omega)]
        have e1 : (b.toNat % 128 + 128 * un7 L) / 128 = un7 L := by omega
        have e2 : UInt8.ofNat ((b.toNat % 128 + 128 * un7 L) % 128 + 128) = b := UInt8.toNat_inj.1 (by rw [UInt8.toNat_ofNat']; omega)
        rw [e1, e2, hrec]
theorem vOut_cases (L : List UInt8) : (∃ e, (e = 10 ∨ e = 11 ∨ e = 12) ∧ vOut L = (0, 0, e)) ∨ (∃ x k, vOut L = (x, k, 0) ∧ 1 ≤ k ∧ k ≤ 10 ∧ k ≤ L.length ∧ x < 18446744073709551616 ∧ vF 9 x = L.take k) := by
  unfold vOut
  have hl := lead_le 10 L
  split
  · exact .inl ⟨12, by simp, rfl⟩
  · split
    · exact .inl ⟨10, by simp, rfl⟩
    · split
      · exact .inl ⟨12, by simp, rfl⟩
      · split
        · exact .inl ⟨11, by simp, rfl⟩
        · rename_i h1 h2 h3 h4
          have hlt : lead 10 L < L.length := by omega
          have htl : (L.take (lead 10 L + 1)).length = lead 10 L + 1 := by rw [List.length_take]; omega
          have hget : ∀ (i : Nat) (b : UInt8), (L.take (lead 10 L + 1))[i]? = some b → L[i]? = some b := by
            intro i b hb
            rw [List.getElem?_take] at hb
            split at hb
            · exact hb
            · cases hb
          have hstop : ∀ b, (L.take (lead 10 L + 1))[lead 10 L]? = some b → b.toNat < 128 ∧ (0 < lead 10 L → b ≠ 0) := by
            intro b hb
            have hb' := hget _ _ hb
            refine ⟨lead_stop 10 L (by omega) b hb', fun hp hz => h4 ⟨hp, ?_⟩⟩
            rw [List.getD_eq_getElem?_getD, hb', hz]; rfl
          have hf := form_of 9 (L.take (lead 10 L + 1)) (lead 10 L) htl (by omega) (fun i b hi hb => by
            obtain ⟨c, hc, h128⟩ := lead_big 10 L i hi
            have := hget _ _ hb
            rw [hc] at this
            injection this with this
            rw [← this]; exact h128) hstop
          refine .inr ⟨_, _, rfl, by omega, by omega, by omega, ?_, hf⟩
          have hu := un7_lt (L.take (lead 10 L + 1))
          rw [htl] at hu
          by_cases h9 : lead 10 L = 9
          · have hc : ∃ c, L[9]? = some c := ⟨_, List.getElem?_eq_getElem (by omega)⟩
            obtain ⟨c, hc⟩ := hc
            have hc2 : c.toNat ≤ 1 := by
              have : ¬ (1 < (L.getD 9 0).toNat) := fun q => h3 ⟨h9, q⟩
              rw [List.getD_eq_getElem?_getD, hc] at this
              simpa using this
            rw [h9]
            have e := un7_take_succ L 9 (by omega)
            have hce : L[9]'(by omega) = c := (List.getElem?_eq_some_iff.1 hc).2
            rw [hce] at e
            have hu9 := un7_lt (L.take 9)
            rw [List.length_take, Nat.min_eq_left (by omega)] at hu9
            have p9 : 128 ^ 9 = 9223372036854775808 := by decide
            rw [e, p9]
            rw [p9] at hu9
            omega
          · have : 128 ^ (lead 10 L + 1) ≤ 128 ^ 9 := Nat.pow_le_pow_right (by decide) (by omega)
            have p9 : 128 ^ 9 = 9223372036854775808 := by decide
            omega
/-- Of least forms neither begins another one. -/
theorem vF_apart (x y : Nat) (hx : x < 18446744073709551616) (hy : y < 18446744073709551616) (r : List UInt8) (h : vF 9 x = vF 9 y ++ r) : x = y := by
  have h1 := vOut_form x hx []
  have h2 := vOut_form y hy r
  rw [List.append_nil, h, h2] at h1
  exact (Prod.mk.inj h1).1.symm
end Go.Proofs.YtmeakhiiebeneaaGreatDoor
/- Plain laws for the loop of wire.Get. -/
namespace Go.Proofs.YtmeakhiiebeneaaGreatDoor
open Go.RowKit

theorem wrapu64_of (v : Nat) (h : v < 256 ^ 8) : IntKind.u64.wrap (v : Int) = (v : Int) := by
  have : 256 ^ 8 = 18446744073709551616 := by decide
  rw [IntKind.wrap_u64]; omega
theorem wrapu32_of (v : Nat) (h : v < 256 ^ 4) : IntKind.u32.wrap (v : Int) = (v : Int) := by
  have : 256 ^ 4 = 4294967296 := by decide
  rw [IntKind.wrap_u32]; omega
theorem wrapu16_of (v : Nat) (h : v < 256 ^ 2) : IntKind.u16.wrap (v : Int) = (v : Int) := by
  have : 256 ^ 2 = 65536 := by decide
  rw [IntKind.wrap_u16]; omega
theorem wrapu8_of (v : Nat) (h : v < 256 ^ 1) : IntKind.u8.wrap (v : Int) = (v : Int) := by
  have : 256 ^ 1 = 256 := by decide
  rw [IntKind.wrap_u8]; omega
theorem bits_or64 (a b : Nat) (ha : a < 256 ^ 8) (hb : b < 256 ^ 8) : bits .or .u64 (a : Int) (b : Int) = ((a ||| b : Nat) : Int) := by
  have e8 : 256 ^ 8 = 2 ^ 64 := by decide
  show IntKind.u64.wrap ((BitVec.ofInt 64 (a : Int) ||| BitVec.ofInt 64 (b : Int)).toNat : Int) = _
  have e : ∀ z : Nat, z < 256 ^ 8 → (BitVec.ofInt 64 (z : Int)).toNat = z := fun z hz => by
    rw [BitVec.toNat_ofInt]
    have : 256 ^ 8 = 18446744073709551616 := by decide
    show ((z : Int) % 18446744073709551616).toNat = z
    omega
  rw [BitVec.toNat_or, e a ha, e b hb]
  refine wrapu64_of _ ?_
  rw [e8] at *
  exact Nat.or_lt_two_pow ha hb
theorem get_step (v k : Nat) (b : UInt8) (hk : k < 8) (hv : v < 256 ^ k) :
    bits .or .u64 (v : Int) (IntKind.u64.wrap (IntKind.u64.wrap (b.toNat : Int) * 2 ^ (8 * k))) = ((v + 256 ^ k * b.toNat : Nat) : Int) ∧ v + 256 ^ k * b.toNat < 256 ^ (k + 1) := by
  have hb := b.toNat_lt
  have hp : 256 ^ (k + 1) ≤ 256 ^ 8 := Nat.pow_le_pow_right (by decide) (by omega)
  have e1 : 256 ^ (k + 1) = 256 ^ k * 256 := Nat.pow_succ ..
  have h1 : 256 ^ k * b.toNat ≤ 256 ^ k * 255 := Nat.mul_le_mul_left _ (by omega)
  have h2 : v + 256 ^ k * b.toNat < 256 ^ (k + 1) := by rw [e1]; omega
  refine ⟨?_, h2⟩
  have e2 : (2 : Nat) ^ (8 * k) = 256 ^ k := by rw [Nat.pow_mul]
  have e3 : ((b.toNat : Int)) * (2 : Int) ^ (8 * k) = ((256 ^ k * b.toNat : Nat) : Int) := by
    rw [← e2, Int.natCast_mul, Int.natCast_pow, Int.mul_comm]; rfl
  have p8 : b.toNat < 256 ^ 8 := Nat.lt_of_lt_of_le hb (by decide)
  rw [wrapu64_of _ p8, e3, wrapu64_of _ (by omega), bits_or64 _ _ (by omega) (by omega)]
  congr 1
  rw [← e2] at hv ⊢
  rw [Nat.add_comm, Nat.two_pow_add_eq_or_of_lt hv, Nat.or_comm]
theorem get_next {L : List UInt8} {k v : Nat} (h : k < L.length) (hv : Hid (v = unle (L.take k))) : Hid (v + 256 ^ k * L[k].toNat = unle (L.take (k + 1))) := by
  unfold Hid
  rw [unle_take_succ L k h, ← hv.out]
end Go.Proofs.YtmeakhiiebeneaaGreatDoor
/- What the calls of a reader answer, and how it stands behind them: no program in sight. -/
namespace Go.Proofs.YtmeakhiiebeneaaGreatDoor
open Go.RowKit

/-- Get of W bytes: the number, the place, the error. -/
def numS (B : List UInt8) (at_ : Nat) (e : Int) (W : Nat) : Nat × Nat × Int :=
  if e = 0 ∧ at_ + W ≤ B.length then (unle ((B.drop at_).take W), at_ + W, 0) else (0, at_, if e = 0 then 10 else e)
/-- Bytes(k). -/
def bytesS (B : List UInt8) (at_ : Nat) (e k : Int) : List UInt8 × Nat × Int :=
  if e = 0 ∧ 0 ≤ k ∧ k ≤ (B.length : Int) - (at_ : Int) then ((B.drop at_).take k.toNat, at_ + k.toNat, 0) else ([], at_, if e = 0 then 10 else e)
/-- V. -/
def vS (B : List UInt8) (at_ : Nat) (e : Int) : Nat × Nat × Int :=
  if e = 0 then ((vOut (B.drop at_)).1, at_ + (vOut (B.drop at_)).2.1, (vOut (B.drop at_)).2.2) else (0, at_, e)
/-- Left. -/
def leftS (B : List UInt8) (at_ : Nat) (e : Int) : Nat := if e = 0 then B.length - at_ else 0

theorem numS_lt (B : List UInt8) (at_ : Nat) (e : Int) (W : Nat) : (numS B at_ e W).1 < 256 ^ W := by
  unfold numS
  split
  · refine Nat.lt_of_lt_of_le (unle_lt _) (Nat.pow_le_pow_right (by decide) ?_)
    rw [List.length_take]; omega
  · exact Nat.pow_pos (by decide)
theorem vOut_lt (L : List UInt8) : (vOut L).1 < 18446744073709551616 := by
  rcases vOut_cases L with ⟨e, _, h⟩ | ⟨x, k, h, _, _, _, h2, _⟩
  · rw [h]; show (0 : Nat) < 18446744073709551616; decide
  · rw [h]; exact h2
theorem vS_lt (B : List UInt8) (at_ : Nat) (e : Int) : (vS B at_ e).1 < 18446744073709551616 := by
  unfold vS
  split
  · exact vOut_lt _
  · show (0 : Nat) < 18446744073709551616; decide
end Go.Proofs.YtmeakhiiebeneaaGreatDoor
namespace Go.Proofs.YtmeakhiiebeneaaGreatDoor
open Go.RowKit

/-- A slice of bytes as a string. -/
theorem conv_str {P : Program} (w : World) {src e dst : TypeId} (hs : P.underlying src = some (.slice e)) (he : P.underlying e = some (.int .u8)) (hd : P.underlying dst = some .string)
    {A : Option Addr} {n c : Nat} {xs : List UInt8} (h : RB w A n c xs) : (convert src dst (.slice A n c)).run P w = .ok (.string ⟨xs.toArray⟩) w := by
  cases A with
  | none =>
    have hn : n = 0 := by have := RC.non h rfl; have := RC.le h; omega
    have : xs = [] := List.eq_nil_of_length_eq_zero (by rw [h.len, hn])
    subst this
    exact run_convert_bytes_nil w src e hs he n c dst hd
  | some ad =>
    have hl : (loadCells ad n).run P w = .ok ((xs.map fun x => (x.toNat : Int)).map (Value.int .u8)).toArray w := by
      have := run_loadCells_list (P := P) w ad (u8s xs) (RC.cell h ad rfl)
      rw [u8s_length, h.len] at this
      rw [this]
      simp [u8s]
    rw [run_convert_bytes_string w src dst e _ n c hs he hd, run_bytesToString w _ n c (xs.map fun x => (x.toNat : Int)) hl, foldl_push_bytes]
    congr 2
    simp only [List.map_map]
    have : ((fun n : Int => UInt8.ofNat n.toNat) ∘ fun x : UInt8 => (x.toNat : Int)) = id := by
      funext x; simp
    rw [this, List.map_id]
    simp [ByteArray.empty, ByteArray.emptyWithCapacity]
    rfl

set_option maxHeartbeats 400000 in
theorem Bytes_calls (A : Option Addr) (n c : Nat) (xs : List UInt8) (w : World) (h : RB w A n c xs) (hb : n ≤ 140737488351232) :
    Calls Tryz.prog 22 #[.slice A n c] w fun e w' => ∃ g c', e = .returned (.slice (some ⟨g, 0, none⟩) n c') ∧ w.heap.size ≤ g ∧ OB w' g n c' xs ∧ Below w.heap.size w w' := by
  go_enter Tryz.func22, Tryz.ntmps22
  go_wp2_with (first
    | (at_make; refine wpB_make rfl _ _ rfl _ _ _ n rfl rfl rfl (by omega) ?_; intro g1 w1 s1 o1 k1; have b1 := below_of_grown k1 (Nat.le_refl _) (by simp); have h1 := h.below b1)
    | (at_builtin; refine wpB_app rfl _ _ rfl _ _ _ _ rfl o1 _ _ _ _ rfl h1 n (by omega) (by omega) ?_; intro g2 c2 w2 q2 p2 o2 k2))
  have z1 := k1.size
  go_ret
  exact ⟨_, _, rfl, by omega, o2, b1.grown k2 z1 (by simp; omega)⟩

set_option maxHeartbeats 400000 in
theorem SameBytes_calls (A A' : Option Addr) (n c n' c' : Nat) (xs ys : List UInt8) (w : World) (h : RB w A n c xs) (h' : RB w A' n' c' ys) (r : Bool) (hr : r = decide (xs = ys)) :
    Calls Tryz.prog 12 #[.slice A n c, .slice A' n' c'] w fun e w' => e = .returned (.bool r) ∧ w = w' := by
  have k1 := conv_str (P := Tryz.prog) (src := 40) (dst := 9) w Tryz.underlying40 Tryz.underlying5 Tryz.underlying9 h
  have k2 := conv_str (P := Tryz.prog) (src := 40) (dst := 9) w Tryz.underlying40 Tryz.underlying5 Tryz.underlying9 h'
  subst hr
  go_enter Tryz.func12, Tryz.ntmps12
  go_wp2
  go_ret
  refine ⟨?_, rfl⟩
  have e : (xs == ys) = decide (xs = ys) := by rw [Bool.eq_iff_iff]; simp
  show Ending.returned (.bool (xs == ys)) = _
  rw [e]
end Go.Proofs.YtmeakhiiebeneaaGreatDoor
namespace Go.Proofs.YtmeakhiiebeneaaGreatDoor
open Go.RowKit
theorem below1 (w : World) (o : Obj) : Below w.heap.size w (w.alloc o) := (Below.refl _ _).alloc (Nat.le_refl _) _
theorem lit_read (w : World) (xs : List UInt8) (n : Nat) (fr : Nat × Nat) (t : TypeId) (hn : xs.length = n) (hm : n ≤ 100) : RB (w.alloc (.cells (u8s xs).toArray t fr)) (some ⟨w.heap.size, 0, none⟩) n n xs :=
  RB.of_block xs n (heap_alloc_new w _) hn (by rw [maxLen_is]; omega)
theorem drew1 (w : World) : Below w.heap.size w w.drew := (Below.refl _ _).drew
theorem lit_two (w : World) (xs ys : List UInt8) (n m : Nat) (f1 f2 : Nat × Nat) (t1 t2 : TypeId) (hx : xs.length = n) (hy : ys.length = m) (h1 : n ≤ 100) (h2 : m ≤ 100) :
    RB ((w.alloc (.cells (u8s xs).toArray t1 f1)).alloc (.cells (u8s ys).toArray t2 f2)) (some ⟨w.heap.size, 0, none⟩) n n xs ∧ RB ((w.alloc (.cells (u8s xs).toArray t1 f1)).alloc (.cells (u8s ys).toArray t2 f2)) (some ⟨w.heap.size + 1, 0, none⟩) m m ys ∧ Below w.heap.size w ((w.alloc (.cells (u8s xs).toArray t1 f1)).alloc (.cells (u8s ys).toArray t2 f2)) := by
  have a := lit_read w xs n f1 t1 hx h1
  have b := lit_read (w.alloc (.cells (u8s xs).toArray t1 f1)) ys m f2 t2 hy h2
  have c := below1 (w.alloc (.cells (u8s xs).toArray t1 f1)) (.cells (u8s ys).toArray t2 f2)
  have e : (w.alloc (.cells (u8s xs).toArray t1 f1)).heap.size = w.heap.size + 1 := by simp
  refine ⟨a.below c, ?_, (below1 w _).trans (c.mono (by rw [e]; omega))⟩
  rwa [e] at b
/-- Two results: bytes that can be read, and a number. -/
def Two (w : World) (xs : List UInt8) (k : Int) (e : Ending) (w' : World) : Prop := ∃ A n c, e = .returned (.tuple #[.slice A n c, .int .i64 k]) ∧ RB w' A n c xs ∧ Below w.heap.size w w'
/-- A slice's length (for a loop's measure). -/
def lenOfS : Value → Nat | .slice _ n _ => n | _ => 0
end Go.Proofs.YtmeakhiiebeneaaGreatDoor
/- A byte of a memory turned: the place, the xor, the memory behind it. -/
namespace Go.Proofs.YtmeakhiiebeneaaGreatDoor
open Go.RowKit

theorem bits_xor8 (x y : UInt8) : bits .xor .u8 (x.toNat : Int) (y.toNat : Int) = ((x ^^^ y).toNat : Int) := by
  show IntKind.u8.wrap ((BitVec.ofInt 8 (x.toNat : Int) ^^^ BitVec.ofInt 8 (y.toNat : Int)).toNat : Int) = _
  have e : ∀ z : UInt8, BitVec.ofInt 8 (z.toNat : Int) = z.toBitVec := fun z => by
    refine BitVec.eq_of_toNat_eq ?_
    have := z.toNat_lt
    rw [BitVec.toNat_ofInt]
    show _ = z.toNat
    omega
  rw [e, e, IntKind.wrap_u8]
  show ((x ^^^ y).toNat : Int) % 256 = _
  have := (x ^^^ y).toNat_lt
  omega

/-- The place (a % n + n) % n. -/
theorem place (a : Int) (n : Nat) (hn : 0 < n) : ∃ (r : Int) (q : Nat), Int.tmod a n = r ∧ -(n : Int) < r ∧ r < n ∧ r % (n : Int) = (q : Int) ∧ q < n := by
  have h1 : Int.tmod a n < n := Int.tmod_lt_of_pos _ (by omega)
  have h2 : -(n : Int) < Int.tmod a n := by
    have := Int.lt_tmod_of_pos a (b := (n : Int)) (by omega)
    omega
  have h3 : 0 ≤ Int.tmod a n % (n : Int) := Int.emod_nonneg _ (by omega)
  have h4 : Int.tmod a n % (n : Int) < n := Int.emod_lt_of_pos _ (by omega)
  exact ⟨_, (Int.tmod a n % (n : Int)).toNat, rfl, h2, h1, by omega, by omega⟩
theorem byte_cell {w : World} {g N c : Nat} {ys : List UInt8} (h : OB w g N c ys) {q : Nat} (hq : q < N) {b : UInt8} (hb : Hid (ys.getD q 0 = b)) : w.cell? ⟨g, q, none⟩ = some (.int .u8 (b.toNat : Int)) := by
  have hl := h.len
  have := h.cell q (by omega)
  rw [this, ← hb.out, List.getD_eq_getElem?_getD, List.getElem?_eq_getElem (by omega)]; rfl
theorem byte_turn {w : World} {g N c : Nat} {ys : List UInt8} (h : OB w g N c ys) (q : Nat) (b x : UInt8) :
    OB (w.setCell ⟨g, q, none⟩ (.int .u8 (bits .xor .u8 (b.toNat : Int) (x.toNat : Int)))) g N c (ys.set q (b ^^^ x)) := by
  rw [bits_xor8]
  exact h.set q (b ^^^ x)
/-- The first n of a memory, cut l[:n:len(l)]. -/
theorem RB.front {w : World} {g N c n : Nat} {ys : List UInt8} (h : RB w (some ⟨g, 0, none⟩) N c ys) (hn : n ≤ N) : RB w (some ⟨g, 0, none⟩) n N (ys.take n) := by
  have hc := RC.le h
  have := h.cut (A' := some ⟨g, 0, none⟩) 0 n N (Nat.zero_le _) hn hn hc (fun _ => by simp [Addr.add]) (fun e => by cases e)
  simpa using this
end Go.Proofs.YtmeakhiiebeneaaGreatDoor
namespace Go.Proofs.YtmeakhiiebeneaaGreatDoor
open Go.RowKit

theorem ret_bool1 {a b : Bool} (h : a = b) : Ending.returned (.bool a) = Ending.returned (.bool b) := by rw [h]
/-- slices of bytes of the call's own, or nothing. -/
def GB (w : World) (base : Nat) (A : Option Addr) (n c : Nat) (xs : List UInt8) : Prop := GC w base 5 1 A n c (u8s xs)
theorem GB.read {w : World} {base n c : Nat} {A : Option Addr} {xs : List UInt8} (h : GB w base A n c xs) : RB w A n c xs := GC.read h
theorem GB.none_ (w : World) (base : Nat) : GB w base none 0 0 [] := GC.nil _ _ _ _
theorem GB.of {w : World} {base g n c : Nat} {xs : List UInt8} (h : OB w g n c xs) (hb : base ≤ g) : GB w base (some ⟨g, 0, none⟩) n c xs := GC.of h hb
theorem GB.below {w w' : World} {base n c : Nat} {A : Option Addr} {xs : List UInt8} (h : GB w base A n c xs) (hb : Below w.heap.size w w') : GB w' base A n c xs := GC.below h hb
/-- Block g has c bytes: these, and zeros behind them. -/
def OZ (w : World) (g c : Nat) (P : List UInt8) : Prop := P.length ≤ c ∧ OB w g c c (P ++ zer (c - P.length))
theorem OZ.below {w w' : World} {g c : Nat} {P : List UInt8} (h : OZ w g c P) (hb : Below w.heap.size w w') : OZ w' g c P := ⟨h.1, h.2.below hb⟩
theorem OZ.lt {w : World} {g c : Nat} {P : List UInt8} (h : OZ w g c P) : g < w.heap.size := h.2.lt
theorem OZ.all {w : World} {g c : Nat} {P : List UInt8} (h : OZ w g c P) : OB w g c c (P ++ zer (c - P.length)) := h.2

section
variable {w : World} {ops : Array Oper} {rest : List Oper} {o : Oper} {a : Act} {Q : Exit → Act → World → Prop}
theorem wpZ_make (hg : o.guard = none) (l c : Operand) (hop : o.op = Op.makeSlice 40 l c) (kl kc : IntKind) (L C : Int) (n m : Nat) (hl : a.eval l = .int kl L) (hc : a.eval c = .int kc C) (hL : L = (n : Int)) (hC : C = (m : Int)) (hnm : n ≤ m) (hn : m ≤ 140737488355328)
    (h : ∀ g w', w.heap.size ≤ g → OZ w' g m [] → w.grownBy w' none → wpList Tryz.prog ops Q rest (a.put o.dst (.slice (some ⟨g, 0, none⟩) n m)) w') : wpList Tryz.prog ops Q (o :: rest) a w := by
  obtain ⟨i0, hi, hz0, hz1, hz2⟩ := info_parts info_u8
  subst hL hC
  have hr := run_make (P := Tryz.prog) w 40 5 i0 (.int .u8 0) Tryz.underlying40 hi hz0 kl kc n m (by omega) (by omega) (by rw [hz2]; omega) (by omega)
  refine wpList_plain hg fun K hK' => ?_
  unfold Oper.wp
  simp only [Int.toNat_natCast] at hr
  simp [execOp, hop, hl, hc, hr, Result.andThen]
  refine hK' _ _ (h _ _ (Nat.le_refl _) ⟨Nat.zero_le _, ?_⟩ (World.grownBy_alloc w _ none))
  rw [hz1, Nat.mul_one]
  have e : (madeCells (Value.cells (.int .u8 0)) m).toList = u8s ([] ++ zer (m - 0)) := by
    have := toList_madeCells_one (.int .u8 0) m
    rw [List.nil_append, Nat.sub_zero]
    unfold zer
    rw [u8s_zeros]
    exact this
  refine OC.mk (by rw [u8s_length, List.nil_append, List.length_nil, Nat.sub_zero, zer_length, Nat.mul_one]) _ (heap_alloc_new w _) (Nat.le_refl _) (by rw [maxLen_is]; omega) (by rw [Nat.mul_one, ← Array.length_toList, e, u8s_length, List.nil_append, Nat.sub_zero, zer_length]) ?_
  rw [e, Nat.mul_one]
  exact List.take_of_length_le (by rw [u8s_length, List.nil_append, zer_length]; exact Nat.sub_le _ _)

theorem wpZ_app (hgd : o.guard = none) (s x : Operand) (ho : o.op = .call { callee := .builtin .append, args := #[s, x], argTypes := #[40, 40] })
    (g n c : Nat) (P : List UInt8) (hs : a.eval s = .slice (some ⟨g, 0, none⟩) n c) (hown : OZ w g c P) (hP : P.length = n)
    (A : Option Addr) (m k : Nat) (ys : List UInt8) (hx : a.eval x = .slice A m k) (hr : RB w A m k ys) (hm : 0 < m) (l : Nat) (hl : n + m = l) (hfit : l ≤ c)
    (h : ∀ w', OZ w' g c (P ++ ys) → w.grownBy w' (some g) → wpList Tryz.prog ops Q rest (a.put o.dst (.slice (some ⟨g, 0, none⟩) l c)) w') :
    wpList Tryz.prog ops Q (o :: rest) a w := by
  have hy := hr.len
  refine wpW_app hgd s x ho g n c _ hs hown.2 A m k ys hx hr hm l hl hfit fun w' h1 h2 => h w' ⟨by rw [List.length_append]; omega, ?_⟩ h2
  have e : (P ++ zer (c - P.length)).take n ++ (ys ++ (P ++ zer (c - P.length)).drop l) = (P ++ ys) ++ zer (c - (P ++ ys).length) := by
    rw [List.take_left' hP, show l = P.length + m by omega, ← List.drop_drop, List.drop_left, List.append_assoc]
    congr 2
    unfold zer
    rw [List.drop_replicate, List.length_append]
    congr 1
    omega
  rw [← e]; exact h1
end

theorem u32_of (x : Nat) (h : x < 256 ^ 4) : IntKind.u32.wrap (x : Int) = (x : Int) := by
  rw [show 256 ^ 4 = 4294967296 from rfl] at h
  rw [IntKind.wrap_u32]; omega
theorem u16_of (x : Nat) (h : x < 256 ^ 2) : IntKind.u16.wrap (x : Int) = (x : Int) := by
  rw [show 256 ^ 2 = 65536 from rfl] at h
  rw [IntKind.wrap_u16]; omega
theorem u8_one (w : World) (k : UInt8) : RB (w.alloc (.cells #[.int .u8 (k.toNat : Int)] 5)) (some ⟨w.heap.size, 0, none⟩) 1 1 [k] := lit_read w [k] 1 _ _ rfl (by omega)
theorem blw_step {w0 w w' : World} (b : Below w0.heap.size w0 w) (k : Below w.heap.size w w') : Below w0.heap.size w0 w' := b.trans (k.mono b.size)
theorem blw_own {B g : Nat} {w0 w w' : World} (b : Below B w0 w) (k : w.grownBy w' (some g)) (hB : B ≤ w.heap.size) (hg : B ≤ g) : Below B w0 w' := b.trans (below_of_grown k hB (by intro j hj; cases hj; exact hg))

theorem wpBG_app {w : World} {ops : Array Oper} {rest : List Oper} {o : Oper} {a : Act} {Q : Exit → Act → World → Prop} (hgd : o.guard = none) (s x : Operand) (ho : o.op = .call { callee := .builtin .append, args := #[s, x], argTypes := #[40, 40] })
    (base : Nat) (A : Option Addr) (n c : Nat) (xs : List UInt8) (hs : a.eval s = .slice A n c) (hown : GB w base A n c xs)
    (B : Option Addr) (m k : Nat) (ys : List UInt8) (hx : a.eval x = .slice B m k) (hr : RB w B m k ys) (hm : 0 < m) (hb : n + m ≤ 140737488355328) (hbase : base ≤ w.heap.size)
    (h : ∀ g' c' w', base ≤ g' → OB w' g' (n + m) c' (xs ++ ys) → w.grownBy w' (A.map (·.block)) → wpList Tryz.prog ops Q rest (a.put o.dst (.slice (some ⟨g', 0, none⟩) (n + m) c')) w') :
    wpList Tryz.prog ops Q (o :: rest) a w := by
  obtain ⟨i0, hi, hz0, hz1, hz2⟩ := info_parts info_u8
  obtain ⟨ad, rfl, -⟩ := RC.drop0 hr hm
  refine wpG_app hgd s x 40 ho base 5 i0 (.int .u8 0) 1 1 Tryz.underlying40 hi hz0 hz1 hz2 rfl (by decide) A n c (u8s xs) hs hown ad m k (u8s ys) hx hr (u8s_one ys) hm (by omega) (by rw [maxLen_is]; omega) hbase ?_
  intro g' c' w' h1 h2 h3
  rw [← u8s_append] at h2
  exact h g' c' w' h1 h2 h3
theorem copy_all (n : Nat) (D : List UInt8) (h : D.length = n) : (zeros n).take 0 ++ (D.take n ++ (zeros n).drop (0 + n)) = D := by
  rw [List.take_zero, List.nil_append, Nat.zero_add, List.drop_of_length_le (by rw [zeros_length]; exact Nat.le_refl _), List.append_nil, List.take_of_length_le (by omega)]
theorem GB.full {w : World} {base n c k : Nat} {A : Option Addr} {xs : List UInt8} (h : GB w base A n c xs) (hl : xs.length = k) (hk : 0 < k) : n = k ∧ ∃ g, A = some ⟨g, 0, none⟩ ∧ base ≤ g ∧ OB w g k c xs := by
  have hn : n = k := by rw [← hl]; exact h.read.len.symm
  subst hn
  rcases GC.oc h with ⟨rfl, h0, _⟩ | ⟨g, rfl, hb, o⟩
  · omega
  · exact ⟨rfl, g, rfl, hb, o⟩
end Go.Proofs.YtmeakhiiebeneaaGreatDoor
namespace Go.Proofs.YtmeakhiiebeneaaGreatDoor
open Go.RowKit

/-- A slice of slices of bytes. -/
structure RM (w : World) (A : Option Addr) (n c : Nat) (vs : List Value) (xss : List (List UInt8)) : Prop where
  rc : RC w 1 A n c vs
  len : xss.length = n
  each : ∀ (j : Nat) (xs : List UInt8), xss[j]? = some xs → ∃ (Aj : Option Addr) (nj cj : Nat), vs[j]? = some (Value.slice Aj nj cj) ∧ RB w Aj nj cj xs
theorem RM.below {w w' : World} {A : Option Addr} {n c : Nat} {vs : List Value} {xss : List (List UInt8)} (h : RM w A n c vs xss) (hb : Below w.heap.size w w') : RM w' A n c vs xss :=
  ⟨h.rc.below hb, h.len, fun j xs hj => by obtain ⟨Aj, nj, cj, e, r⟩ := h.each j xs hj; exact ⟨Aj, nj, cj, e, r.below hb⟩⟩
theorem RM.row {w : World} {A : Option Addr} {n c : Nat} {vs : List Value} {xss : List (List UInt8)} (h : RM w A n c vs xss) (j : Nat) (hj : j < n) :
    ∃ (ad : Addr) (Aj : Option Addr) (nj cj : Nat) (xs : List UInt8), A = some ad ∧ xss[j]? = some xs ∧ w.cell? (ad.add j) = some (.slice Aj nj cj) ∧ RB w Aj nj cj xs := by
  obtain ⟨xs, hxs⟩ : ∃ xs, xss[j]? = some xs := ⟨_, List.getElem?_eq_getElem (by rw [h.len]; exact hj)⟩
  obtain ⟨Aj, nj, cj, e, r⟩ := h.each j xs hxs
  obtain ⟨ad, u, e1, e2, e3⟩ := RC.at_ h.rc j hj
  rw [e] at e2
  cases e2
  exact ⟨ad, Aj, nj, cj, xs, e1, hxs, e3, r⟩

theorem RB.max {w : World} {A : Option Addr} {n c : Nat} {xs : List UInt8} (h : RB w A n c xs) : n ≤ 9223372036854775807 := by
  have h1 := RC.le h; have h2 := RC.mx h; rw [maxLen_is] at h2; omega
end Go.Proofs.YtmeakhiiebeneaaGreatDoor
namespace Go.Proofs.YtmeakhiiebeneaaGreatDoor
open Go.RowKit

def sv (p : Option Addr × Nat × Nat) : Value := .slice p.1 p.2.1 p.2.2
theorem sv_one (l : List (Option Addr × Nat × Nat)) : ∀ u ∈ l.map sv, u.oneCell' = true := by
  intro u hu
  obtain ⟨_, _, rfl⟩ := List.mem_map.1 hu
  rfl
def Before (p q : Option Addr × Nat × Nat) : Prop := ∀ a b, p.1 = some a → q.1 = some b → a.block ≠ b.block
/-- A row of slices of bytes; row and slices lie in blocks of the call's own, each slice in one of its own (no two alike). -/
structure OM (w : World) (base : Nat) (A : Option Addr) (n c : Nat) (ps : List (Option Addr × Nat × Nat)) (xss : List (List UInt8)) : Prop where
  row : GC w base 40 1 A n c (ps.map sv)
  len : ps.length = xss.length
  each : ∀ (j : Nat) (p : Option Addr × Nat × Nat) (xs : List UInt8), ps[j]? = some p → xss[j]? = some xs → GB w base p.1 p.2.1 p.2.2 xs
  inc : ps.Pairwise Before
theorem OM.nil (w : World) (base : Nat) : OM w base none 0 0 [] [] := ⟨GC.nil _ _ _ _, rfl, fun j p xs h => by simp at h, List.Pairwise.nil⟩
theorem OM.below {w w' : World} {base n c : Nat} {A : Option Addr} {ps : List (Option Addr × Nat × Nat)} {xss : List (List UInt8)} (h : OM w base A n c ps xss) (hb : Below w.heap.size w w') : OM w' base A n c ps xss :=
  ⟨h.row.below hb, h.len, fun j p xs h1 h2 => (h.each j p xs h1 h2).below hb, h.inc⟩
theorem OM.n {w : World} {base n c : Nat} {A : Option Addr} {ps : List (Option Addr × Nat × Nat)} {xss : List (List UInt8)} (h : OM w base A n c ps xss) : ps.length = n := by
  have := h.row.1; simpa using this
theorem OM.read {w : World} {base n c : Nat} {A : Option Addr} {ps : List (Option Addr × Nat × Nat)} {xss : List (List UInt8)} (h : OM w base A n c ps xss) : RM w A n c (ps.map sv) xss :=
  ⟨GC.read h.row, by rw [← h.len, h.n], fun j xs hj => by
    have hl : j < ps.length := by rw [h.len]; exact (List.getElem?_eq_some_iff.1 hj).1
    have hp : ps[j]? = some ps[j] := List.getElem?_eq_getElem hl
    exact ⟨ps[j].1, ps[j].2.1, ps[j].2.2, by rw [List.getElem?_map, hp]; rfl, (h.each j _ xs hp hj).read⟩⟩
theorem GB.lt {w : World} {base n c : Nat} {A : Option Addr} {xs : List UInt8} (h : GB w base A n c xs) (a : Addr) (e : A = some a) : a.block < w.heap.size ∧ base ≤ a.block := by
  rcases GC.oc h with ⟨rfl, _⟩ | ⟨g, rfl, h2, o⟩
  · cases e
  · cases e; exact ⟨o.lt, h2⟩
theorem OM.lt {w : World} {base n c : Nat} {A : Option Addr} {ps : List (Option Addr × Nat × Nat)} {xss : List (List UInt8)} (h : OM w base A n c ps xss) : ∀ p ∈ ps, ∀ a, p.1 = some a → a.block < w.heap.size := by
  intro p hp a e
  obtain ⟨j, hj, rfl⟩ := List.getElem_of_mem hp
  have hx : xss[j]? = some (xss[j]'(by rw [← h.len]; exact hj)) := List.getElem?_eq_getElem _
  exact ((h.each j _ _ (List.getElem?_eq_getElem hj) hx).lt a e).1
theorem OM.lower {w : World} {base base' n c : Nat} {A : Option Addr} {ps : List (Option Addr × Nat × Nat)} {xss : List (List UInt8)} (h : OM w base A n c ps xss) (hb : base' ≤ base) : OM w base' A n c ps xss :=
  ⟨GC.lower h.row hb, h.len, fun j p xs h1 h2 => GC.lower (h.each j p xs h1 h2) hb, h.inc⟩
theorem OM.push {w w' : World} {base n c lo n' c' g c2 : Nat} {A A' : Option Addr} {ps : List (Option Addr × Nat × Nat)} {xss : List (List UInt8)} {xs : List UInt8} (h : OM w base A n c ps xss) (hp : GB w lo A' n' c' xs)
    (hlo : ∀ p ∈ ps, ∀ a, p.1 = some a → a.block < lo) (hb : base ≤ lo) (gx : w.grownBy w' (A.map (·.block))) (o : OC w' 40 1 g (n + 1) c2 (ps.map sv ++ [.slice A' n' c'])) (hg : base ≤ g) :
    OM w' base (some ⟨g, 0, none⟩) (n + 1) c2 (ps ++ [(A', n', c')]) (xss ++ [xs]) := by
  refine ⟨by rw [List.map_append]; exact GC.of o hg, by rw [List.length_append, List.length_append, h.len]; rfl, ?_, ?_⟩
  · intro j p ys h1 h2
    by_cases hj : j < ps.length
    · rw [List.getElem?_append_left hj] at h1
      rw [List.getElem?_append_left (by rw [← h.len]; exact hj)] at h2
      exact GC.apart (h.each j p ys h1 h2) h.row gx (by decide)
    · rw [List.getElem?_append_right (by omega)] at h1
      rw [List.getElem?_append_right (by rw [← h.len]; omega), ← h.len] at h2
      have hj0 : j - ps.length = 0 := by
        have := (List.getElem?_eq_some_iff.1 h1).1
        simp at this; omega
      rw [hj0] at h1 h2
      simp at h1 h2
      subst h1 h2
      exact GC.apart (GC.lower hp hb) h.row gx (by decide)
  · rw [List.pairwise_append]
    refine ⟨h.inc, List.pairwise_singleton _ _, fun p hpm q hq => ?_⟩
    simp at hq
    subst hq
    intro a b ea eb
    have h1 := hlo p hpm a ea
    have h2 := (hp.lt b eb).2
    omega

theorem OC.tyy {w : World} {e e' sz sz' g n n' c c' : Nat} {cs cs' : List Value} (h : OC w e sz g n c cs) (k : OC w e' sz' g n' c' cs') : e = e' := by
  obtain ⟨_, cur, q1, _⟩ := OC.block h
  obtain ⟨_, cur', q2, _⟩ := OC.block k
  rw [q1] at q2
  injection q2 with q2
  injection q2
theorem OM.under {w w' : World} {base n c g : Nat} {A : Option Addr} {ps : List (Option Addr × Nat × Nat)} {xss : List (List UInt8)} {e sz m k : Nat} {cs : List Value} (h : OM w base A n c ps xss) (gx : w.grownBy w' (some g)) (hlo : ∀ p ∈ ps, ∀ a, p.1 = some a → a.block ≠ g) (o : OC w e sz g m k cs) (ne : 40 ≠ e) : OM w' base A n c ps xss := by
  refine ⟨?_, h.len, ?_, h.inc⟩
  · rcases h.row.oc with ⟨rfl, rfl, rfl, hcs⟩ | ⟨g2, rfl, hb, o2⟩
    · rw [hcs]; exact GC.nil _ _ _ _
    · refine GC.of (o2.same (Sm.of_grown gx o2.lt ?_)) hb
      simp only [ne_eq, Option.some.injEq]
      rintro rfl
      exact ne (OC.tyy o2 o)
  · intro j p xs h1 h2
    have hp := h.each j p xs h1 h2
    have hm : p ∈ ps := List.mem_of_getElem? h1
    refine GC.same hp fun a ea => ?_
    have := (hp.lt a ea).1
    exact Sm.of_grown gx this (by simpa using hlo p hm a ea)

theorem info_bs : (Tryz.prog.info? 40).map (fun i => (i.zero, i.size, i.bytes)) = some (some (.slice none 0 0), 1, 24) := by kernel_rfl
theorem wpM_app {w : World} {ops : Array Oper} {rest : List Oper} {o : Oper} {a : Act} {Q : Exit → Act → World → Prop} (hgd : o.guard = none) (s x : Operand) (ho : o.op = .call { callee := .builtin .append, args := #[s, x], argTypes := #[25, 25] })
    (base : Nat) (A : Option Addr) (n c : Nat) (l : List Value) (hs : a.eval s = .slice A n c) (hown : GC w base 40 1 A n c l)
    (ad : Addr) (p : Option Addr × Nat × Nat) (hx : a.eval x = .slice (some ad) 1 1) (hr : RC w 1 (some ad) 1 1 [sv p]) (hb : n + 1 ≤ 1000000) (hbase : base ≤ w.heap.size)
    (h : ∀ g' c' w', base ≤ g' → OC w' 40 1 g' (n + 1) c' (l ++ [sv p]) → w.grownBy w' (A.map (·.block)) → wpList Tryz.prog ops Q rest (a.put o.dst (.slice (some ⟨g', 0, none⟩) (n + 1) c')) w') :
    wpList Tryz.prog ops Q (o :: rest) a w := by
  obtain ⟨i0, hi, hz0, hz1, hz2⟩ := info_parts info_bs
  exact wpG_app hgd s x 25 ho base 40 i0 (.slice none 0 0) 1 24 Tryz.underlying25 hi hz0 hz1 hz2 rfl (by decide) A n c l hs hown ad 1 1 [sv p] hx hr (sv_one [p]) (by decide) (by omega) (by rw [maxLen_is]; omega) hbase h
theorem sv_cell (w : World) (p : Option Addr × Nat × Nat) : RC (w.alloc (.cells #[.slice p.1 p.2.1 p.2.2] 40)) 1 (some ⟨w.heap.size, 0, none⟩) 1 1 [sv p] :=
  OC.read (e := 40) (OC.mk rfl _ (heap_alloc_new w _) (Nat.le_refl _) (by rw [maxLen_is]; omega) rfl rfl)
theorem min_at (a : Int) (b n : Nat) (h : (n : Int) = if a ≤ (b : Int) then a else (b : Int)) (ts : Array TypeId) (t : TypeId) (w : World) : (Builtin.min_ ts t #[.int .i64 a, .int .i64 (b : Int)]).run Tryz.prog w = .ok (.int .i64 (n : Int)) w := by
  rw [run_min_int2]; split <;> (congr 2; split at h <;> omega)

end Go.Proofs.YtmeakhiiebeneaaGreatDoor
namespace Go.Proofs.YtmeakhiiebeneaaGreatDoor
open Go.RowKit

section
variable {P : Program} {w : World} {ops : Array Oper} {rest : List Oper} {o : Oper} {a : Act} {K : Act → World → Prop} {Q : Exit → Act → World → Prop} {E : Prop}
theorem op_app (s x : Operand) (t : TypeId) (ho : o.op = .call { callee := .builtin .append, args := #[s, x], argTypes := #[t, t] })
    (e : TypeId) (i : TypeInfo) (z : Value) (sz bytes : Nat) (ht : P.underlying t = some (.slice e)) (hi : P.info? e = some i) (hz : i.zero = some z)
    (hsize : i.size = sz) (hby : i.bytes = bytes) (hzs : z.cells.size = sz) (hsz : 0 < sz)
    (g n c : Nat) (xs : List Value) (hs : a.eval s = .slice (some ⟨g, 0, none⟩) n c) (hown : OC w e sz g n c xs)
    (A : Option Addr) (m k : Nat) (news : List Value) (hx : a.eval x = .slice A m k) (hr : RC w sz A m k news) (h1 : ∀ u ∈ news, u.oneCell' = true)
    (hbytes : (n + m) * bytes ≤ 140737488355328) (h63 : n + m ≤ maxLen)
    (hfit : n + m ≤ c → ∀ w', OC w' e sz g (n + m) c (xs ++ news) → w.grownBy w' (some g) → K (a.put o.dst (.slice (some ⟨g, 0, none⟩) (n + m) c)) w')
    (hnew : ¬ n + m ≤ c → ∀ c' w', OC w' e sz w.heap.size (n + m) c' (xs ++ news) → w.grownBy w' none → K (a.put o.dst (.slice (some ⟨w.heap.size, 0, none⟩) (n + m) c')) w') :
    o.wp P a w K Q := by
  have fin : ∀ v' w', (Builtin.append_ #[t, t] o.type #[.slice (some ⟨g, 0, none⟩) n c, .slice A m k]).run P w = .ok v' w' → K (a.put o.dst v') w' → o.wp P a w K Q := by
    intro v' w' hrun hk
    unfold Oper.wp
    simp [execOp, ho, resolve, invoke, builtin, hs, hx, hrun, Result.andThen]
    exact hk
  obtain ⟨hl, cur, hg, r1, r2, r3, r4⟩ := hown.block
  have hxl := hown.1
  by_cases hroom : n + m ≤ c
  · cases A with
    | none =>
      have hk0 := hr.non rfl
      have hm0 : m = 0 := by have := hr.le; omega
      subst hm0
      have hnews : news = [] := List.eq_nil_of_length_eq_zero (by have := hr.len; simpa using this)
      subst hnews
      subst hk0
      have hrun := run_append_owned_none (P := P) w 0 t o.type e i sz ht hi _ n xs hown
      refine fin _ _ hrun ?_
      have := hfit hroom w (by simpa using hown) (World.grownBy.refl _ _)
      simpa using this
    | some ad =>
      obtain ⟨w', hrun, k1, k2⟩ := run_append_fits (P := P) w 0 t o.type e i sz ht hi hsize g n c xs hown ad m k news hr.len (hr.cell ad rfl) h1 hroom
      exact fin _ _ hrun (hfit hroom w' (OC.of_own k1) k2)
  · cases A with
    | none =>
      have := hr.non rfl
      have := hr.le
      omega
    | some ad =>
      have hm' : n + m ≤ 9223372036854775807 := by simpa [maxLen] using h63
      subst hsize
      subst hby
      have hrun := run_append_grow (P := P) w t o.type e i z ht hi hz ⟨g, 0, none⟩ n c xs hxl (fun j u hu => World.ownsRow.cells hown (g := g) rfl j u hu) ad m k news hr.len (hr.cell ad rfl) (by omega) (by omega) (growslice_fits (by omega) hbytes)
      refine fin _ _ hrun ?_
      have hge := grownCap_ge w (n + m) c e
      have hcm : grownCap w (n + m) c e ≤ maxLen := grownCap_le_maxLen w (n + m) c e h63
      have hlen : (xs ++ news).length = (n + m) * i.size := by rw [List.length_append, hxl, hr.len, Nat.add_mul]
      refine hnew hroom _ _ (OC.mk hlen _ (heap_alloc_new w.drew _) hge hcm ?_ ?_) ⟨rfl, rfl, rfl, by simp, fun j hj _ => Below.heap_alloc w.drew _ j hj⟩
      · simp only [Array.size_append, List.size_toArray, size_zeroCells, hzs, hxl, hr.len, ← Nat.add_mul]
        congr 1
        omega
      · simp only [Array.toList_append, List.append_assoc]
        rw [← List.append_assoc, ← hlen]
        exact List.take_left
theorem step_of (hgd : o.guard = none) (h : o.wp P a w K Q) : if Region.wanted o (yielded ops a.tmps) = true then Oper.wp P o a w K Q else E := by
  have hw : Region.wanted o (yielded ops a.tmps) = true := by simp [Region.wanted, hgd]
  rw [if_pos hw]
  exact h
end
section
variable {w : World} {ops : Array Oper} {rest : List Oper} {o : Oper} {a : Act} {K : Act → World → Prop} {Q : Exit → Act → World → Prop} {E : Prop}
/-- append of bytes onto a block of its own: kept (and written) or new. -/
theorem opB_app (s x : Operand) (ho : o.op = .call { callee := .builtin .append, args := #[s, x], argTypes := #[40, 40] })
    (g n c : Nat) (xs : List UInt8) (hs : a.eval s = .slice (some ⟨g, 0, none⟩) n c) (hown : OB w g n c xs)
    (A : Option Addr) (m k : Nat) (ys : List UInt8) (hx : a.eval x = .slice A m k) (hr : RB w A m k ys) (l : Nat) (hl : n + m = l) (hb : l ≤ 140737488355328)
    (h : ∀ g' c' w', ((g' = g ∧ c' = c ∧ w.grownBy w' (some g)) ∨ (g' = w.heap.size ∧ w.grownBy w' none)) → OB w' g' l c' (xs ++ ys) → K (a.put o.dst (.slice (some ⟨g', 0, none⟩) l c')) w') :
    o.wp Tryz.prog a w K Q := by
  obtain ⟨i0, hi, hz0, hz1, hz2⟩ := info_parts info_u8
  subst hl
  refine op_app s x 40 ho 5 i0 (.int .u8 0) 1 1 Tryz.underlying40 hi hz0 hz1 hz2 rfl (by decide) g n c (u8s xs) hs hown A m k (u8s ys) hx hr (u8s_one ys) (by omega) (by rw [maxLen_is]; omega) ?_ ?_
  · intro _ w' h3 h4
    rw [← u8s_append] at h3
    exact h g c w' (Or.inl ⟨rfl, rfl, h4⟩) h3
  · intro _ c' w' h3 h4
    rw [← u8s_append] at h3
    exact h _ c' w' (Or.inr ⟨rfl, h4⟩) h3
theorem wpB_app2 (hgd : o.guard = none) (s x : Operand) (ho : o.op = .call { callee := .builtin .append, args := #[s, x], argTypes := #[40, 40] })
    (g n c : Nat) (xs : List UInt8) (hs : a.eval s = .slice (some ⟨g, 0, none⟩) n c) (hown : OB w g n c xs)
    (A : Option Addr) (m k : Nat) (ys : List UInt8) (hx : a.eval x = .slice A m k) (hr : RB w A m k ys) (l : Nat) (hl : n + m = l) (hb : l ≤ 140737488355328)
    (h : ∀ g' c' w', ((g' = g ∧ c' = c ∧ w.grownBy w' (some g)) ∨ (g' = w.heap.size ∧ w.grownBy w' none)) → OB w' g' l c' (xs ++ ys) → wpList Tryz.prog ops Q rest (a.put o.dst (.slice (some ⟨g', 0, none⟩) l c')) w') :
    wpList Tryz.prog ops Q (o :: rest) a w :=
  wpList_plain hgd fun _ hK => opB_app s x ho g n c xs hs hown A m k ys hx hr l hl hb fun g' c' w' h1 h2 => hK _ _ (h g' c' w' h1 h2)
theorem stepB_app (hgd : o.guard = none) (s x : Operand) (ho : o.op = .call { callee := .builtin .append, args := #[s, x], argTypes := #[40, 40] })
    (g n c : Nat) (xs : List UInt8) (hs : a.eval s = .slice (some ⟨g, 0, none⟩) n c) (hown : OB w g n c xs)
    (A : Option Addr) (m k : Nat) (ys : List UInt8) (hx : a.eval x = .slice A m k) (hr : RB w A m k ys) (l : Nat) (hl : n + m = l) (hb : l ≤ 140737488355328)
    (h : ∀ g' c' w', ((g' = g ∧ c' = c ∧ w.grownBy w' (some g)) ∨ (g' = w.heap.size ∧ w.grownBy w' none)) → OB w' g' l c' (xs ++ ys) → K (a.put o.dst (.slice (some ⟨g', 0, none⟩) l c')) w') :
    if Region.wanted o (yielded ops a.tmps) = true then Oper.wp Tryz.prog o a w K Q else E :=
  step_of hgd (opB_app s x ho g n c xs hs hown A m k ys hx hr l hl hb h)

/-- append onto a row that grows, as one operation. -/
theorem opG_app {P : Program} (s x : Operand) (t : TypeId) (ho : o.op = .call { callee := .builtin .append, args := #[s, x], argTypes := #[t, t] })
    (base e : Nat) (i : TypeInfo) (z : Value) (sz bytes : Nat) (ht : P.underlying t = some (.slice e)) (hi : P.info? e = some i) (hz : i.zero = some z)
    (hsize : i.size = sz) (hby : i.bytes = bytes) (hzs : z.cells.size = sz) (hsz : 0 < sz)
    (A : Option Addr) (n c : Nat) (xs : List Value) (hs : a.eval s = .slice A n c) (hown : GC w base e sz A n c xs)
    (ad : Addr) (m k : Nat) (news : List Value) (hx : a.eval x = .slice (some ad) m k) (hr : RC w sz (some ad) m k news) (h1 : ∀ u ∈ news, u.oneCell' = true) (hm : 0 < m)
    (hbytes : (n + m) * bytes ≤ 140737488355328) (h63 : n + m ≤ maxLen) (hbase : base ≤ w.heap.size)
    (h : ∀ g' c' w', base ≤ g' → OC w' e sz g' (n + m) c' (xs ++ news) → w.grownBy w' (A.map (·.block)) → K (a.put o.dst (.slice (some ⟨g', 0, none⟩) (n + m) c')) w') :
    o.wp P a w K Q := by
  have fin : ∀ v' w', (Builtin.append_ #[t, t] o.type #[.slice A n c, .slice (some ad) m k]).run P w = .ok v' w' → K (a.put o.dst v') w' → o.wp P a w K Q := by
    intro v' w' hrun hk
    unfold Oper.wp
    simp [execOp, ho, resolve, invoke, builtin, hs, hx, hrun, Result.andThen]
    exact hk
  obtain ⟨v', w', hrun, k1, k2, k3⟩ := run_append_own (P := P) w base t o.type e i z sz bytes ht hi hz hsize hby hzs hsz (.slice A n c) n xs hown ad m k news hr.len (hr.cell ad rfl) h1 h63 hbytes hbase
  refine fin _ _ hrun ?_
  have hb : (Value.slice A n c).ownBlock = A.map (·.block) := by cases A <;> rfl
  rw [hb] at k2
  rcases k1.2 with ⟨h', h4⟩ | ⟨g', cap, cur, rfl, hb2, hg, r⟩
  · omega
  · exact h g' cap w' hb2 (OC.mk k1.1 cur hg r.1 r.2.1 r.2.2.1 r.2.2.2) k2
/-- append onto nothing or onto a block of its own, with all that is known of it. -/
theorem opX_app {P : Program} (s x : Operand) (t : TypeId) (ho : o.op = .call { callee := .builtin .append, args := #[s, x], argTypes := #[t, t] })
    (base e : Nat) (i : TypeInfo) (z : Value) (sz bytes : Nat) (ht : P.underlying t = some (.slice e)) (hi : P.info? e = some i) (hz : i.zero = some z)
    (hsize : i.size = sz) (hby : i.bytes = bytes) (hzs : z.cells.size = sz) (hsz : 0 < sz)
    (A : Option Addr) (n c : Nat) (xs : List Value) (hs : a.eval s = .slice A n c) (hown : GC w base e sz A n c xs)
    (ad : Addr) (m k : Nat) (news : List Value) (hx : a.eval x = .slice (some ad) m k) (hr : RC w sz (some ad) m k news) (h1 : ∀ u ∈ news, u.oneCell' = true) (hm : 0 < m)
    (hbytes : (n + m) * bytes ≤ 140737488355328) (h63 : n + m ≤ maxLen)
    (h : ∀ g' c' w', ((∃ g, A = some ⟨g, 0, none⟩ ∧ g' = g ∧ c' = c ∧ w.grownBy w' (some g)) ∨ (w.heap.size ≤ g' ∧ w.grownBy w' none)) → OC w' e sz g' (n + m) c' (xs ++ news) → K (a.put o.dst (.slice (some ⟨g', 0, none⟩) (n + m) c')) w') :
    o.wp P a w K Q := by
  rcases hown.oc with ⟨rfl, rfl, rfl, rfl⟩ | ⟨g, rfl, hb, own⟩
  · have hm' : m ≤ 9223372036854775807 := by have : m ≤ maxLen := by omega
                                             simpa [maxLen] using this
    subst hsize
    subst hby
    have hl := hr.len
    rw [Nat.zero_add] at hbytes h63
    have hrun := run_append_nil (P := P) w t o.type e i z ht hi hz ad m k news hl (hr.cell ad rfl) (by omega) (by omega) (by omega)
    have fin : ∀ v' w', (Builtin.append_ #[t, t] o.type #[.slice none 0 0, .slice (some ad) m k]).run P w = .ok v' w' → K (a.put o.dst v') w' → o.wp P a w K Q := by
      intro v' w' hrun hk
      unfold Oper.wp
      simp [execOp, ho, resolve, invoke, builtin, hs, hx, hrun, Result.andThen]
      exact hk
    refine fin _ _ hrun ?_
    have hge := grownCap_ge w m 0 e
    have hcm : grownCap w m 0 e ≤ maxLen := grownCap_le_maxLen w m 0 e h63
    have := h w.heap.size (grownCap w m 0 e) (w.drew.alloc (.cells (news.toArray ++ Builtin.zeroCells z.cells (grownCap w m 0 e - m)) e)) (Or.inr ⟨Nat.le_refl _, ⟨rfl, rfl, rfl, by simp, fun j hj _ => Below.heap_alloc w.drew _ j hj⟩⟩) (OC.mk (by rw [List.nil_append, Nat.zero_add]; exact hl) _ (heap_alloc_new w.drew _) (by omega) hcm (by
      simp only [Array.size_append, List.size_toArray, size_zeroCells, hzs, hl, ← Nat.add_mul]
      congr 1
      omega) (by
      simp only [Array.toList_append, List.nil_append, Nat.zero_add]
      rw [← hl]
      exact List.take_left))
    simpa using this
  · exact op_app s x t ho e i z sz bytes ht hi hz hsize hby hzs hsz g n c xs hs own (some ad) m k news hx hr h1 hbytes h63
      (fun _ w' k1 k2 => h g c w' (Or.inl ⟨g, rfl, rfl, rfl, k2⟩) k1) (fun _ c' w' k1 k2 => h _ c' w' (Or.inr ⟨Nat.le_refl _, k2⟩) k1)
theorem stepU_app (hgd : o.guard = none) (s x : Operand) (ho : o.op = .call { callee := .builtin .append, args := #[s, x], argTypes := #[40, 40] })
    (base : Nat) (A : Option Addr) (n c : Nat) (xs : List Value) (hs : a.eval s = .slice A n c) (hown : GC w base 5 1 A n c xs)
    (ad : Addr) (y : Value) (hx : a.eval x = .slice (some ad) 1 1) (hr : RC w 1 (some ad) 1 1 [y]) (h1 : y.oneCell' = true) (hb : n ≤ 100000000)
    (h : ∀ g' c' w', ((∃ g, A = some ⟨g, 0, none⟩ ∧ g' = g ∧ c' = c ∧ w.grownBy w' (some g)) ∨ (w.heap.size ≤ g' ∧ w.grownBy w' none)) → OC w' 5 1 g' (n + 1) c' (xs ++ [y]) → K (a.put o.dst (.slice (some ⟨g', 0, none⟩) (n + 1) c')) w') :
    if Region.wanted o (yielded ops a.tmps) = true then Oper.wp Tryz.prog o a w K Q else E := by
  obtain ⟨i0, hi, hz0, hz1, hz2⟩ := info_parts info_u8
  exact step_of hgd (opX_app s x 40 ho base 5 i0 (.int .u8 0) 1 1 Tryz.underlying40 hi hz0 hz1 hz2 rfl (by decide) A n c xs hs hown ad 1 1 [y] hx hr (by simpa using h1) (by decide) (by omega) (by rw [maxLen_is]; omega) h)
theorem stepM_app (hgd : o.guard = none) (s x : Operand) (ho : o.op = .call { callee := .builtin .append, args := #[s, x], argTypes := #[25, 25] })
    (base : Nat) (A : Option Addr) (n c : Nat) (l : List Value) (hs : a.eval s = .slice A n c) (hown : GC w base 40 1 A n c l)
    (ad : Addr) (p : Option Addr × Nat × Nat) (hx : a.eval x = .slice (some ad) 1 1) (hr : RC w 1 (some ad) 1 1 [sv p]) (hb : n + 1 ≤ 1000000) (hbase : base ≤ w.heap.size)
    (h : ∀ g' c' w', base ≤ g' → OC w' 40 1 g' (n + 1) c' (l ++ [sv p]) → w.grownBy w' (A.map (·.block)) → K (a.put o.dst (.slice (some ⟨g', 0, none⟩) (n + 1) c')) w') :
    if Region.wanted o (yielded ops a.tmps) = true then Oper.wp Tryz.prog o a w K Q else E := by
  obtain ⟨i0, hi, hz0, hz1, hz2⟩ := info_parts info_bs
  exact step_of hgd (opG_app s x 25 ho base 40 i0 (.slice none 0 0) 1 24 Tryz.underlying25 hi hz0 hz1 hz2 rfl (by decide) A n c l hs hown ad 1 1 [sv p] hx hr (sv_one [p]) (by decide) (by omega) (by rw [maxLen_is]; omega) hbase h)
theorem grown_any {w w' : World} {row : Option Nat} (h : w.grownBy w' none) : w.grownBy w' row := ⟨h.os, h.tape, h.output, h.size, fun k hk _ => h.block k hk (by simp)⟩
/-- append onto a row of slices that grows: and where the row lies then. -/
theorem opMx_app (s x : Operand) (ho : o.op = .call { callee := .builtin .append, args := #[s, x], argTypes := #[25, 25] })
    (base : Nat) (A : Option Addr) (n c : Nat) (l : List Value) (hs : a.eval s = .slice A n c) (hown : GC w base 40 1 A n c l)
    (ad : Addr) (p : Option Addr × Nat × Nat) (hx : a.eval x = .slice (some ad) 1 1) (hr : RC w 1 (some ad) 1 1 [sv p]) (hb : n + 1 ≤ 1000000) (hbase : base ≤ w.heap.size)
    (h : ∀ g' c' w', base ≤ g' → ((∃ b, A = some b ∧ g' = b.block) ∨ w.heap.size ≤ g') → OC w' 40 1 g' (n + 1) c' (l ++ [sv p]) → w.grownBy w' (A.map (·.block)) → K (a.put o.dst (.slice (some ⟨g', 0, none⟩) (n + 1) c')) w') :
    o.wp Tryz.prog a w K Q := by
  obtain ⟨i0, hi, hz0, hz1, hz2⟩ := info_parts info_bs
  refine opX_app s x 25 ho base 40 i0 (.slice none 0 0) 1 24 Tryz.underlying25 hi hz0 hz1 hz2 rfl (by decide) A n c l hs hown ad 1 1 [sv p] hx hr (sv_one [p]) (by decide) (by omega) (by rw [maxLen_is]; omega) fun g' c' w' q o' => ?_
  rcases q with ⟨g, rfl, rfl, rfl, k⟩ | ⟨hg, k⟩
  · rcases hown.oc with ⟨e0, _⟩ | ⟨g0, e0, hb0, _⟩
    · cases e0
    · cases e0
      exact h _ _ w' hb0 (Or.inl ⟨_, rfl, rfl⟩) o' k
  · exact h _ _ w' (Nat.le_trans hbase hg) (Or.inr hg) o' (grown_any k)
theorem wpMx_app (hgd : o.guard = none) (s x : Operand) (ho : o.op = .call { callee := .builtin .append, args := #[s, x], argTypes := #[25, 25] })
    (base : Nat) (A : Option Addr) (n c : Nat) (l : List Value) (hs : a.eval s = .slice A n c) (hown : GC w base 40 1 A n c l)
    (ad : Addr) (p : Option Addr × Nat × Nat) (hx : a.eval x = .slice (some ad) 1 1) (hr : RC w 1 (some ad) 1 1 [sv p]) (hb : n + 1 ≤ 1000000) (hbase : base ≤ w.heap.size)
    (h : ∀ g' c' w', base ≤ g' → ((∃ b, A = some b ∧ g' = b.block) ∨ w.heap.size ≤ g') → OC w' 40 1 g' (n + 1) c' (l ++ [sv p]) → w.grownBy w' (A.map (·.block)) → wpList Tryz.prog ops Q rest (a.put o.dst (.slice (some ⟨g', 0, none⟩) (n + 1) c')) w') :
    wpList Tryz.prog ops Q (o :: rest) a w :=
  wpList_plain hgd fun _ hK => opMx_app s x ho base A n c l hs hown ad p hx hr hb hbase fun g' c' w' h1 h2 h3 h4 => hK _ _ (h g' c' w' h1 h2 h3 h4)
theorem stepMx_app (hgd : o.guard = none) (s x : Operand) (ho : o.op = .call { callee := .builtin .append, args := #[s, x], argTypes := #[25, 25] })
    (base : Nat) (A : Option Addr) (n c : Nat) (l : List Value) (hs : a.eval s = .slice A n c) (hown : GC w base 40 1 A n c l)
    (ad : Addr) (p : Option Addr × Nat × Nat) (hx : a.eval x = .slice (some ad) 1 1) (hr : RC w 1 (some ad) 1 1 [sv p]) (hb : n + 1 ≤ 1000000) (hbase : base ≤ w.heap.size)
    (h : ∀ g' c' w', base ≤ g' → ((∃ b, A = some b ∧ g' = b.block) ∨ w.heap.size ≤ g') → OC w' 40 1 g' (n + 1) c' (l ++ [sv p]) → w.grownBy w' (A.map (·.block)) → K (a.put o.dst (.slice (some ⟨g', 0, none⟩) (n + 1) c')) w') :
    if Region.wanted o (yielded ops a.tmps) = true then Oper.wp Tryz.prog o a w K Q else E :=
  step_of hgd (opMx_app s x ho base A n c l hs hown ad p hx hr hb hbase h)
end
end Go.Proofs.YtmeakhiiebeneaaGreatDoor
