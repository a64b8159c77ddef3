/- copy as one step of a region that draws its order. -/
import Derived.Test.YtieoleiokjoccaaWb
import Derived.Deep.RegionLaw
namespace Go.Proofs.Ytieoleiokjoccaa
open Go.RowKit

theorem stepB_copy {w : World} {ops : Array Oper} {o : Oper} {a : Act} {K : Act → World → Prop} {Q : Exit → Act → World → Prop} {E : Prop} (hgd : o.guard = none) (d s : Operand) (ho : o.op = .call { callee := .builtin .copy, args := #[d, s], argTypes := #[34, 34] })
    (D : Option Addr) (dl dc : Nat) (hd : a.eval d = .slice D dl dc) (A : Option Addr) (m k : Nat) (hs : a.eval s = .slice A m k)
    (g n c off : Nat) (xs ys : List UInt8) (hown : OB w g n c xs) (hr : RB w A m k ys) (j : Nat) (hj : j = min m dl) (hD : 0 < j → D = some ⟨g, off, none⟩) (hfit : off + j ≤ n)
    (h : ∀ w', OB w' g n c (xs.take off ++ (ys.take j ++ xs.drop (off + j))) → w.grownBy w' (some g) → K (a.put o.dst (.int .i64 j)) w') :
    if Region.wanted o (yielded ops a.tmps) = true then Oper.wp Try.prog o a w K Q else E := by
  have hw : Region.wanted o (yielded ops a.tmps) = true := by simp [Region.wanted, hgd]
  rw [if_pos hw]
  have hyl := hr.len
  have hxl := hown.len
  by_cases h0 : j = 0
  · have hrun := run_copy_none (P := Try.prog) w 34 34 o.type 5 D A dl dc m k Try.underlying34 info1_u8 (by show min m dl = 0; omega)
    unfold Oper.wp
    simp [execOp, ho, resolve, invoke, builtin, hd, hs, hrun, Result.andThen]
    subst h0
    exact h w (by simpa using hown) (World.grownBy.refl _ _)
  · have hm : 0 < m := by omega
    obtain ⟨ad, rfl, hc⟩ := RC.drop0 hr hm
    have hDD := hD (by omega)
    subst hDD
    obtain ⟨hl, cur, hg, r1, r2, r3, r4⟩ := OC.block hown
    rw [Nat.mul_one] at r3 r4 hl
    have hrun := run_copy_row (P := Try.prog) w 34 34 o.type 5 g off dl dc ad m k cur 5 (u8s (ys.take j)) Try.underlying34 info1_u8 hg (by rw [u8s_length, List.length_take, hyl]; show min j m = min m dl; first | omega | (subst hj; omega))
      (fun i u hu => hc i u (by
        rw [← u8s_take, List.getElem?_take] at hu
        split at hu
        · exact hu
        · cases hu)) (by rw [u8s_length, List.length_take]; omega) (u8s_one _)
    unfold Oper.wp
    simp [execOp, ho, resolve, invoke, builtin, hd, hs, hrun, Result.andThen]
    have hjl : (u8s (ys.take j)).length = j := by rw [u8s_length, List.length_take]; omega
    have hcl : cur.toList.length = c := by rw [Array.length_toList]; exact r3
    rw [hjl]
    refine h _ (OC.mk (by simp [u8s_length]; omega) _ (setRow_heap w g cur _ 5 _ hg) r1 r2 ?_ ?_) ⟨rfl, rfl, rfl, by simp, fun q _ hq => setRow_other w g q _ (fun e => hq (by simp [e]))⟩
    · simp only [List.size_toArray, List.length_append, List.length_take, List.length_drop, hjl, hcl]
      omega
    · have hsp := splice_take (u8s xs) (cur.toList.drop n) (u8s (ys.take j)) off n (by rw [u8s_length]; exact hxl) (by rw [hjl]; exact hfit)
      have e3 : u8s xs ++ cur.toList.drop n = cur.toList := by rw [← r4, List.take_append_drop]
      rw [hjl, e3, u8s_take, u8s_drop] at hsp
      rw [Nat.mul_one, u8s_append, u8s_append]
      exact hsp
end Go.Proofs.Ytieoleiokjoccaa
