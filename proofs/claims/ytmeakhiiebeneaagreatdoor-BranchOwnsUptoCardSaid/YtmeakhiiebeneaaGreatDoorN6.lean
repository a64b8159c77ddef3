/- strconv.Itoa's contract, laid at this program by the kit's tools (the numbers are this seat's). -/
import Derived.Shelf.LaysM
import Derived.Shelf.Strconv.Itoa3
import Derived.Test.YtmeakhiiebeneaaGreatDoorChecked
import Derived.Test.YtmeakhiiebeneaaGreatDoorN4
import Derived.Test.YtmeakhiiebeneaaGreatDoorN1
import Derived.Lib.AppendIntMem
import Derived.Lib.ItoaLen
import Derived.Laws.IdiomStrings
namespace Go.Proofs.YtmeakhiiebeneaaGreatDoor
open Go.Shelf

def itoaRen : Go.Shelf.Ren := ⟨fun | 171 => 225 | 243 => 227 | 246 => 228 | 283 => 229 | 284 => 230 | 285 => 231 | 286 => 232 | 129 => 234 | 317 => 233 | 318 => 235 | 319 => 236 | 320 => 237 | 337 => 238 | 338 => 239 | n => n, fun | 3 => 3 | 9 => 9 | 2 => 2 | 4 => 4 | 171 => 208 | 0 => 0 | 53 => 55 | 37 => 40 | 5 => 5 | 173 => 210 | 212 => 213 | 51 => 113 | 20 => 20 | 213 => 214 | 46 => 146 | 232 => 217 | 233 => 218 | n => n, fun | 17 => 1 | 18 => 2 | 19 => 3 | n => n⟩
theorem itoaLays : Go.Proofs.LaysM.n171 Tryz.prog itoaRen := {
  mixed := by kernel_rfl
  f129 := Tryz.func234.trans (congrArg some (by kernel_rfl))
  f171 := Tryz.func225.trans (congrArg some (by kernel_rfl))
  f243 := Tryz.func227.trans (congrArg some (by kernel_rfl))
  f246 := Tryz.func228.trans (congrArg some (by kernel_rfl))
  f283 := Tryz.func229.trans (congrArg some (by kernel_rfl))
  f284 := Tryz.func230.trans (congrArg some (by kernel_rfl))
  f285 := Tryz.func231.trans (congrArg some (by kernel_rfl))
  f286 := Tryz.func232.trans (congrArg some (by kernel_rfl))
  f317 := Tryz.func233.trans (congrArg some (by kernel_rfl))
  f318 := Tryz.func235.trans (congrArg some (by kernel_rfl))
  f319 := Tryz.func236.trans (congrArg some (by kernel_rfl))
  f320 := Tryz.func237.trans (congrArg some (by kernel_rfl))
  f337 := Tryz.func238.trans (congrArg some (by kernel_rfl))
  f338 := Tryz.func239.trans (congrArg some (by kernel_rfl))
  t0 := Tryz.underlying0
  a0 := Tryz.isAgg0
  z0 := Tryz.sizeOf0
  v0 := Tryz.zeroValue0
  t2 := Tryz.underlying2
  a2 := Tryz.isAgg2
  z2 := Tryz.sizeOf2
  v2 := Tryz.zeroValue2
  t3 := Tryz.underlying3
  a3 := Tryz.isAgg3
  z3 := Tryz.sizeOf3
  v3 := Tryz.zeroValue3
  t4 := Tryz.underlying4
  a4 := Tryz.isAgg4
  z4 := Tryz.sizeOf4
  v4 := Tryz.zeroValue4
  t5 := Tryz.underlying5
  a5 := Tryz.isAgg5
  z5 := Tryz.sizeOf5
  v5 := Tryz.zeroValue5
  t9 := Tryz.underlying9
  a9 := Tryz.isAgg9
  z9 := Tryz.sizeOf9
  v9 := Tryz.zeroValue9
  t20 := Tryz.underlying20
  a20 := Tryz.isAgg20
  z20 := Tryz.sizeOf20
  v20 := Tryz.zeroValue20
  t37 := Tryz.underlying40
  a37 := Tryz.isAgg40
  z37 := Tryz.sizeOf40
  v37 := Tryz.zeroValue40
  t46 := Tryz.underlying146
  a46 := Tryz.isAgg146
  z46 := Tryz.sizeOf146
  v46 := Tryz.zeroValue146
  t51 := Tryz.underlying113
  a51 := Tryz.isAgg113
  z51 := Tryz.sizeOf113
  v51 := Tryz.zeroValue113
  t53 := Tryz.underlying55
  a53 := Tryz.isAgg55
  z53 := Tryz.sizeOf55
  v53 := Tryz.zeroValue55
  t171 := Tryz.underlying208
  a171 := Tryz.isAgg208
  z171 := Tryz.sizeOf208
  v171 := Tryz.zeroValue208
  t173 := Tryz.underlying210
  a173 := Tryz.isAgg210
  z173 := Tryz.sizeOf210
  v173 := Tryz.zeroValue210
  t212 := Tryz.underlying213
  a212 := Tryz.isAgg213
  z212 := Tryz.sizeOf213
  v212 := Tryz.zeroValue213
  t213 := Tryz.underlying214
  a213 := Tryz.isAgg214
  z213 := Tryz.sizeOf214
  t232 := Tryz.underlying217
  a232 := Tryz.isAgg217
  z232 := Tryz.sizeOf217
  v232 := Tryz.zeroValue217
  t233 := Tryz.underlying218
  a233 := Tryz.isAgg218
  z233 := Tryz.sizeOf218
  v233 := Tryz.zeroValue218
  g17 := by kernel_rfl
  g18 := by kernel_rfl
  g19 := by kernel_rfl
  i0 := by kernel_rfl
  i2 := by kernel_rfl
  i3 := by kernel_rfl
  i4 := by kernel_rfl
  i5 := by kernel_rfl
  i9 := by kernel_rfl
  i20 := by kernel_rfl
  i37 := by kernel_rfl
  i46 := by kernel_rfl
  i51 := by kernel_rfl
  i53 := by kernel_rfl
  i171 := by kernel_rfl
  i173 := by kernel_rfl
  i212 := by kernel_rfl
  i232 := by kernel_rfl
  i233 := by kernel_rfl
  m17 := by kernel_rfl
  m18 := by kernel_rfl
  m19 := by kernel_rfl }
open Go.RowKit Go.Sort Go.Lib in
theorem strconv_Itoa (n : Int) (h0 : -9223372036854775808 ≤ n) (h1 : n ≤ 9223372036854775807) (w : World) (htab : Lib.TabIs Tryz.prog w "internal/strconv.uint64pow10" .u64 Lib.pow10Tab) :
    Calls Tryz.prog 225 #[.int .i64 n] w fun e w' => e = .returned (.string ⟨(Lib.itoa n).toArray⟩) ∧ ∃ k os, w' = grow (w.drewN k) os := Any.strconv_Itoa itoaLays n h0 h1 w htab
end Go.Proofs.YtmeakhiiebeneaaGreatDoor
namespace Go.Proofs.YtmeakhiiebeneaaGreatDoor
open Go.RowKit

/-- the library's table, as long as nothing below B is written. -/
def Tb (B : Nat) (w : World) : Prop := Lib.TabBelow Tryz.prog B w "internal/strconv.uint64pow10" .u64 Lib.pow10Tab
theorem Tb.next {B : Nat} {w w' : World} (h : Tb B w) (b : Below B w w') : Tb B w' := fun w'' b' => h w'' (b.trans b')
theorem Tb.here {B : Nat} {w : World} (h : Tb B w) : Lib.TabIs Tryz.prog w "internal/strconv.uint64pow10" .u64 Lib.pow10Tab := h w (Below.refl _ _)
theorem Tb.below {B : Nat} {w w' : World} (h : Tb B w) (hB : B ≤ w.heap.size) (b : Below w.heap.size w w') : Tb B w' := h.next (b.mono hB)
def txt (p : Int) (id j : Nat) : List UInt8 := Lib.itoa ((id : Int) * 1000 + 2 * (j : Int) + p)
theorem txt_len (p : Int) (id j : Nat) (p0 : 0 ≤ p) (p1 : p ≤ 1) (h1 : id ≤ 10000000) (h2 : j ≤ 10000000) : (txt p id j).length ≤ 21 := Lib.itoa_length_le _ (by omega) (by omega)
theorem below_grow (w : World) (os : Array Obj) (k : Nat) : Below w.heap.size w (Sort.grow (w.drewN k) os) :=
  ⟨rfl, rfl, rfl, by simp, fun j hj => by
    show (w.heap ++ os)[j]? = w.heap[j]?
    rw [Array.getElem?_append_left hj]⟩
set_option maxRecDepth 100000 in
set_option maxHeartbeats 1000000 in
theorem textsMark_calls (B gk : Nat) (p z : Int) (id j : Nat) (w : World) (hp : w.cell? ⟨gk, 1, none⟩ = some (.int .i64 p)) (tb : Tb B w) (hz : z = (id : Int)) (p0 : 0 ≤ p) (p1 : p ≤ 1) (h1 : id ≤ 10000000) (h2 : j ≤ 10000000) :
    Calls Tryz.prog 195 #[.pointer (some ⟨gk, 0, none⟩), .int .i64 z, .int .i64 (j : Int)] w fun e w' => e = .returned (.string ⟨(txt p id j).toArray⟩) ∧ Below w.heap.size w w' := by
  subst hz
  have w1 : IntKind.i64.wrap ((id : Int) * 1000) = (id : Int) * 1000 := by rw [IntKind.wrap_i64]; omega
  have w2 : IntKind.i64.wrap (2 * (j : Int)) = 2 * (j : Int) := by rw [IntKind.wrap_i64]; omega
  have w3 : IntKind.i64.wrap ((id : Int) * 1000 + 2 * (j : Int)) = (id : Int) * 1000 + 2 * (j : Int) := by rw [IntKind.wrap_i64]; omega
  have w4 : IntKind.i64.wrap ((id : Int) * 1000 + 2 * (j : Int) + p) = (id : Int) * 1000 + 2 * (j : Int) + p := by rw [IntKind.wrap_i64]; omega
  have IT := strconv_Itoa ((id : Int) * 1000 + 2 * (j : Int) + p) (by omega) (by omega) w tb.here
  go_enter Tryz.func195, Tryz.ntmps195
  go_wp2_with (go_at_call 225; refine IT.mono ?_; rintro en wx ⟨rfl, k, os, rfl⟩)
  go_ret
  exact ⟨rfl, below_grow _ _ _⟩
/-- a block of bytes, frozen or not. -/
def U8 (w : World) (g : Nat) : Prop := ∃ cur fr, w.heap[g]? = some (.cells cur 5 fr)
theorem U8.lt {w : World} {g : Nat} (h : U8 w g) : g < w.heap.size := by
  obtain ⟨cur, fr, h⟩ := h
  exact (Array.getElem?_eq_some_iff.1 h).1
theorem U8.same {w w' : World} {g : Nat} (h : U8 w g) (s : Sm w w' g) : U8 w' g := by
  obtain ⟨cur, fr, h⟩ := h
  exact ⟨cur, fr, (show w'.heap[g]? = w.heap[g]? from s).trans h⟩
theorem U8.ne {w : World} {g g' e sz n c : Nat} {cs : List Value} (h : U8 w g) (o : OC w e sz g' n c cs) (ne : 5 ≠ e) : g ≠ g' := by
  rintro rfl
  obtain ⟨cur, fr, h⟩ := h
  obtain ⟨_, cur', h', _⟩ := o.block
  rw [h] at h'
  injection h' with h'
  injection h' with _ h'
  exact ne h'
/-- a mark: a slice at the head of a block of bytes. -/
def MkB (w : World) (F : Nat → Prop) (v : Value) (xs : List UInt8) : Prop := ∃ g c, v = .slice (some ⟨g, 0, none⟩) xs.length c ∧ RB w (some ⟨g, 0, none⟩) xs.length c xs ∧ U8 w g ∧ F g
theorem MkB.same {w w' : World} {F : Nat → Prop} {v : Value} {xs : List UInt8} (h : MkB w F v xs) (s : ∀ g, U8 w g → F g → Sm w w' g) : MkB w' F v xs := by
  obtain ⟨g, c, e, r, u, f⟩ := h
  have := s g u f
  exact ⟨g, c, e, r.same (fun ad ea _ => by cases ea; exact this), u.same this, f⟩
theorem MkB.imp {w : World} {F F' : Nat → Prop} {v : Value} {xs : List UInt8} (h : MkB w F v xs) (hf : ∀ g, U8 w g → F g → F' g) : MkB w F' v xs := by
  obtain ⟨g, c, e, r, u, f⟩ := h
  exact ⟨g, c, e, r, u, hf g u f⟩
theorem bytes_block (w : World) (xs : List UInt8) (c : Nat) (fr : Nat × Nat) (hc : xs.length ≤ c) (hm : c ≤ maxLen) :
    RB (w.alloc (.cells (bytesRow ⟨xs.toArray⟩ c) 5 fr)) (some ⟨w.heap.size, 0, none⟩) xs.length c xs ∧ U8 (w.alloc (.cells (bytesRow ⟨xs.toArray⟩ c) 5 fr)) w.heap.size := by
  refine ⟨⟨by rw [u8s_length]; omega, hc, hm, (fun e => by cases e), fun ad ea j u hu => ?_⟩, ⟨_, fr, heap_alloc_new w _⟩⟩
  cases ea
  have hj : j < xs.length := by rw [← u8s_length]; exact (List.getElem?_eq_some_iff.1 hu).1
  rw [u8s_get xs j hj] at hu
  cases hu
  have hb := bytesRow_at ⟨xs.toArray⟩ c j (by simpa using hj)
  have e : (⟨w.heap.size, 0, none⟩ : Addr).add j = ⟨w.heap.size, j, none⟩ := by
    cases j with
    | zero => unfold Addr.add; exact if_pos rfl
    | succ j => rw [Addr.add_succ']; simp
  rw [e]
  simp only [World.cell?, heap_alloc_new w _]
  simpa using hb
set_option maxRecDepth 100000 in
set_option maxHeartbeats 1000000 in
theorem byteListsMark_calls (B gk : Nat) (p z : Int) (id j : Nat) (w : World) (hp : w.cell? ⟨gk, 1, none⟩ = some (.int .i64 p)) (tb : Tb B w) (hz : z = (id : Int)) (p0 : 0 ≤ p) (p1 : p ≤ 1) (h1 : id ≤ 10000000) (h2 : j ≤ 10000000) :
    Calls Tryz.prog 196 #[.pointer (some ⟨gk, 0, none⟩), .int .i64 z, .int .i64 (j : Int)] w fun e w' => ∃ v, e = .returned v ∧ MkB w' (fun g => w.heap.size ≤ g) v (txt p id j) ∧ Below w.heap.size w w' := by
  subst hz
  have TM := textsMark_calls B gk p (id : Int) id j w hp tb rfl p0 p1 h1 h2
  have hl := txt_len p id j p0 p1 h1 h2
  generalize txt p id j = xs at TM hl
  have cv := fun w s => run_bytes_of_string (P := Tryz.prog) w 9 40 5 s Tryz.underlying9 Tryz.underlying40 Tryz.underlying5
  go_enter Tryz.func196, Tryz.ntmps196
  go_wp2_with (go_at_call 195; refine TM.mono ?_; rintro en w1 ⟨rfl, x1⟩)
  obtain ⟨r, u⟩ := bytes_block w1 xs (grownCap w1 xs.length 0 5) ((bytesRow ⟨xs.toArray⟩ (grownCap w1 xs.length 0 5)).size, (bytesRow ⟨xs.toArray⟩ (grownCap w1 xs.length 0 5)).size + 1) (grownCap_ge w1 xs.length 0 5) (grownCap_le_maxLen w1 xs.length 0 5 (by rw [maxLen_is]; omega))
  go_ret
  exact ⟨_, rfl, ⟨_, _, rfl, r.below (drew1 _), u.same rfl, x1.size⟩, (x1.alloc x1.size _).drew⟩

/-- Each list shows its own marks, which lie in blocks of F. -/
def MarkM (w : World) (F : Nat → Prop) (p : Int) (id0 k : Nat) (css : List (List Value)) : Prop := ∀ j cs, j < k → css[j]? = some cs → ∀ i v, cs[i]? = some v → MkB w F v (txt p (id0 + j + 1) i)
theorem MarkM.same {w w' : World} {F : Nat → Prop} {p : Int} {id0 k : Nat} {css : List (List Value)} (h : MarkM w F p id0 k css) (s : ∀ g, U8 w g → F g → Sm w w' g) : MarkM w' F p id0 k css := fun j cs hj hc i v hv => (h j cs hj hc i v hv).same s
theorem MarkM.imp {w : World} {F F' : Nat → Prop} {p : Int} {id0 k : Nat} {css : List (List Value)} (h : MarkM w F p id0 k css) (hf : ∀ g, U8 w g → F g → F' g) : MarkM w F' p id0 k css := fun j cs hj hc i v hv => (h j cs hj hc i v hv).imp hf
theorem MarkM.below {w w' : World} {F : Nat → Prop} {p : Int} {id0 k : Nat} {css : List (List Value)} (h : MarkM w F p id0 k css) (b : Below w.heap.size w w') : MarkM w' F p id0 k css := h.same fun _ u _ => Sm.of_below b u.lt
theorem MarkM.nil (w : World) (F : Nat → Prop) (p : Int) (id0 k : Nat) : MarkM w F p id0 k [] := fun j cs _ h => by simp at h
theorem MarkM.more {w : World} {F : Nat → Prop} {p : Int} {id0 k : Nat} {css : List (List Value)} (h : MarkM w F p id0 k css) (hk : ∀ cs, css[k]? = some cs → ∀ i v, cs[i]? = some v → MkB w F v (txt p (id0 + k + 1) i)) : MarkM w F p id0 (k + 1) css := fun j cs hj hc => by
  rcases Nat.lt_or_ge j k with q | q
  · exact h j cs q hc
  · obtain rfl : j = k := by omega
    exact hk cs hc
theorem MarkM.set {w : World} {F : Nat → Prop} {p : Int} {id0 k i : Nat} {css : List (List Value)} (h : MarkM w F p id0 k css) (hi : k ≤ i) (cs : List Value) : MarkM w F p id0 k (css.set i cs) := fun j cs' hj hc => by
  rw [List.getElem?_set, if_neg (by omega)] at hc
  exact h j cs' hj hc
theorem MarkM.grow {w : World} {F : Nat → Prop} {p : Int} {id0 m i n : Nat} {zss : List (List Value)} {zs : List Value} {v : Value} (h : MarkM w F p id0 m zss) (hi : i < m) (hz : zss[i]? = some zs) (hl : zs.length = n) (hv : MkB w F v (txt p (id0 + i + 1) n)) : MarkM w F p id0 m (zss.set i (zs ++ [v])) := fun j zs' hj k => by
  rw [List.getElem?_set] at k
  by_cases hij : i = j
  · subst hij
    rw [if_pos rfl] at k
    split at k
    · cases k
      intro q u hu
      by_cases hq : q < zs.length
      · rw [List.getElem?_append_left hq] at hu
        exact h i zs hi hz q u hu
      · rw [List.getElem?_append_right (by omega)] at hu
        have hq0 : q - zs.length = 0 := by
          have := (List.getElem?_eq_some_iff.1 hu).1
          simp at this; omega
        rw [hq0] at hu
        cases hu
        obtain rfl : q = n := by omega
        exact hv
    · cases k
  · rw [if_neg hij] at k
    exact h j zs' hj k
set_option maxRecDepth 100000 in
set_option maxHeartbeats 4000000 in
theorem byteListsShow_calls (B gk : Nat) (F : Nat → Prop) (p z : Int) (id : Nat) (A : Option Addr) (n c : Nat) (cs : List Value) (w : World) (hp : w.cell? ⟨gk, 1, none⟩ = some (.int .i64 p)) (tb : Tb B w) (hB : B ≤ w.heap.size) (hz : z = (id : Int)) (p0 : 0 ≤ p) (p1 : p ≤ 1) (h : RC w 1 A n c cs) (hm : ∀ i v, cs[i]? = some v → MkB w F v (txt p id i)) (h1 : id ≤ 10000000) (h2 : n ≤ 10000000) :
    Calls Tryz.prog 209 #[.pointer (some ⟨gk, 0, none⟩), .slice A n c, .int .i64 z] w fun e w' => e = .returned (.bool true) ∧ Below w.heap.size w w' := by
  subst hz
  have HM := hideIt hm
  clear hm
  go_enter Tryz.func209, Tryz.ntmps209
  go_wp2
  go_loopw [7] (fun jj wr => ∃ j : Nat, j ≤ n ∧ jj = .int .i64 (j : Int) ∧ Below w.heap.size w wr) (fun jj _ => n - (intOf jj).toNat)
  case atStart => exact ⟨0, by omega, rfl, Below.refl _ _⟩
  case round =>
    obtain ⟨j, hj, rfl, b⟩ := hrel
    by_cases hlt : j < n
    · obtain ⟨ad, u, rfl, hu, cell⟩ := (h.below b).at_ j hlt
      obtain ⟨g, c1, rfl, r1, u1, f1⟩ := (HM.out j u hu).same (w' := wr) (fun g q _ => Sm.of_below b q.lt)
      have MK := byteListsMark_calls B gk p (id : Int) id j wr ((b.cell (World.block_lt_of_cell? w _ hp)).trans hp) (tb.below hB b) rfl p0 p1 h1 (by omega)
      have i1 : (j : Int) < (n : Int) := by omega
      clear hu u1 f1
      generalize txt p id j = xs at MK r1 cell
      go_upto_region 5 with (go_at_call 196; (with_reducible refine MK.mono ?_); rintro en w2 ⟨v, rfl, ⟨g2, c2, rfl, r2, -, -⟩, x2⟩)
      have b2 := blw_step b x2
      have r12 := r1.below x2
      have cell2 := (x2.cell (World.block_lt_of_cell? wr _ cell)).trans cell
      clear MK r1 x2 cell
      go_wp2_with (go_at_call 12; (with_reducible refine (SameBytes_calls _ _ _ _ _ _ _ _ _ r12 r2 true (by simp)).mono ?_); rintro en w3 ⟨rfl, rfl⟩)
      go_roundw
      case rel => exact ⟨j + 1, by omega, by go_num, b2⟩
      case measure => simp [intOf]; omega
    · obtain rfl : n = j := by omega
      go_wp2
      go_ret
      exact ⟨rfl, b⟩
end Go.Proofs.YtmeakhiiebeneaaGreatDoor
