/- strconv.Itoa's contract, laid at this program by the kit's tools (the numbers are this seat's). -/
import Derived.Shelf.LaysM
import Derived.Shelf.Strconv.Itoa3
import Derived.Test.YtmeakhiiebeneaaGreatDoorChecked
namespace Go.Proofs.YtmeakhiiebeneaaGreatDoor
open Go.Shelf

def itoaRen : Go.Shelf.Ren := ⟨fun | 171 => 225 | 243 => 227 | 246 => 228 | 283 => 229 | 284 => 230 | 285 => 231 | 286 => 232 | 129 => 234 | 317 => 233 | 318 => 235 | 319 => 236 | 320 => 237 | 337 => 238 | 338 => 239 | n => n, fun | 3 => 3 | 9 => 9 | 2 => 2 | 4 => 4 | 171 => 208 | 0 => 0 | 53 => 55 | 37 => 40 | 5 => 5 | 173 => 210 | 212 => 213 | 51 => 113 | 20 => 20 | 213 => 214 | 46 => 146 | 232 => 217 | 233 => 218 | n => n, fun | 17 => 1 | 18 => 2 | 19 => 3 | n => n⟩
theorem itoaLays : Go.Proofs.LaysM.n171 Tryz.prog itoaRen := {
  mixed := by kernel_rfl
  f129 := Tryz.func234.trans (congrArg some (by kernel_rfl))
  f171 := Tryz.func225.trans (congrArg some (by kernel_rfl))
  f243 := Tryz.func227.trans (congrArg some (by kernel_rfl))
  f246 := Tryz.func228.trans (congrArg some (by kernel_rfl))
  f283 := Tryz.func229.trans (congrArg some (by kernel_rfl))
  f284 := Tryz.func230.trans (congrArg some (by kernel_rfl))
  f285 := Tryz.func231.trans (congrArg some (by kernel_rfl))
  f286 := Tryz.func232.trans (congrArg some (by kernel_rfl))
  f317 := Tryz.func233.trans (congrArg some (by kernel_rfl))
  f318 := Tryz.func235.trans (congrArg some (by kernel_rfl))
  f319 := Tryz.func236.trans (congrArg some (by kernel_rfl))
  f320 := Tryz.func237.trans (congrArg some (by kernel_rfl))
  f337 := Tryz.func238.trans (congrArg some (by kernel_rfl))
  f338 := Tryz.func239.trans (congrArg some (by kernel_rfl))
  t0 := Tryz.underlying0
  a0 := Tryz.isAgg0
  z0 := Tryz.sizeOf0
  v0 := Tryz.zeroValue0
  t2 := Tryz.underlying2
  a2 := Tryz.isAgg2
  z2 := Tryz.sizeOf2
  v2 := Tryz.zeroValue2
  t3 := Tryz.underlying3
  a3 := Tryz.isAgg3
  z3 := Tryz.sizeOf3
  v3 := Tryz.zeroValue3
  t4 := Tryz.underlying4
  a4 := Tryz.isAgg4
  z4 := Tryz.sizeOf4
  v4 := Tryz.zeroValue4
  t5 := Tryz.underlying5
  a5 := Tryz.isAgg5
  z5 := Tryz.sizeOf5
  v5 := Tryz.zeroValue5
  t9 := Tryz.underlying9
  a9 := Tryz.isAgg9
  z9 := Tryz.sizeOf9
  v9 := Tryz.zeroValue9
  t20 := Tryz.underlying20
  a20 := Tryz.isAgg20
  z20 := Tryz.sizeOf20
  v20 := Tryz.zeroValue20
  t37 := Tryz.underlying40
  a37 := Tryz.isAgg40
  z37 := Tryz.sizeOf40
  v37 := Tryz.zeroValue40
  t46 := Tryz.underlying146
  a46 := Tryz.isAgg146
  z46 := Tryz.sizeOf146
  v46 := Tryz.zeroValue146
  t51 := Tryz.underlying113
  a51 := Tryz.isAgg113
  z51 := Tryz.sizeOf113
  v51 := Tryz.zeroValue113
  t53 := Tryz.underlying55
  a53 := Tryz.isAgg55
  z53 := Tryz.sizeOf55
  v53 := Tryz.zeroValue55
  t171 := Tryz.underlying208
  a171 := Tryz.isAgg208
  z171 := Tryz.sizeOf208
  v171 := Tryz.zeroValue208
  t173 := Tryz.underlying210
  a173 := Tryz.isAgg210
  z173 := Tryz.sizeOf210
  v173 := Tryz.zeroValue210
  t212 := Tryz.underlying213
  a212 := Tryz.isAgg213
  z212 := Tryz.sizeOf213
  v212 := Tryz.zeroValue213
  t213 := Tryz.underlying214
  a213 := Tryz.isAgg214
  z213 := Tryz.sizeOf214
  t232 := Tryz.underlying217
  a232 := Tryz.isAgg217
  z232 := Tryz.sizeOf217
  v232 := Tryz.zeroValue217
  t233 := Tryz.underlying218
  a233 := Tryz.isAgg218
  z233 := Tryz.sizeOf218
  v233 := Tryz.zeroValue218
  g17 := by kernel_rfl
  g18 := by kernel_rfl
  g19 := by kernel_rfl
  i0 := by kernel_rfl
  i2 := by kernel_rfl
  i3 := by kernel_rfl
  i4 := by kernel_rfl
  i5 := by kernel_rfl
  i9 := by kernel_rfl
  i20 := by kernel_rfl
  i37 := by kernel_rfl
  i46 := by kernel_rfl
  i51 := by kernel_rfl
  i53 := by kernel_rfl
  i171 := by kernel_rfl
  i173 := by kernel_rfl
  i212 := by kernel_rfl
  i232 := by kernel_rfl
  i233 := by kernel_rfl
  m17 := by kernel_rfl
  m18 := by kernel_rfl
  m19 := by kernel_rfl }
open Go.RowKit Go.Sort Go.Lib in
theorem strconv_Itoa (n : Int) (h0 : -9223372036854775808 ≤ n) (h1 : n ≤ 9223372036854775807) (w : World) (htab : Lib.TabIs Tryz.prog w "internal/strconv.uint64pow10" .u64 Lib.pow10Tab) :
    Calls Tryz.prog 225 #[.int .i64 n] w fun e w' => e = .returned (.string ⟨(Lib.itoa n).toArray⟩) ∧ ∃ k os, w' = grow (w.drewN k) os := Any.strconv_Itoa itoaLays n h0 h1 w htab
end Go.Proofs.YtmeakhiiebeneaaGreatDoor
