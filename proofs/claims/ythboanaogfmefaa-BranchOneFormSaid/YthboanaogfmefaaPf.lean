/- branch.Encode of anything. -/
import Derived.Test.YthboanaogfmefaaPe
namespace Go.Proofs.Ythboanaogfmefaa
open Go.RowKit

set_option maxRecDepth 100000 in
set_option maxHeartbeats 1000000 in
theorem Encode_no (level : Int) (A : Option Addr) (n c : Nat) (vs : List Value) (l : List (List UInt8)) (B : Option Addr) (m d : Nat) (ks : List (Int × Int)) (w : World) (h : RM w A n c vs l) (hf : Few n l) (hk : RK w B m d ks) (hw : wrongS level l ks ≠ 0) :
    Calls Try.prog 21 #[.int .i64 level, .slice A n c, .slice B m d] w fun e w' => e = .returned (.tuple #[.slice none 0 0, .int .i64 (wrongS level l ks)]) ∧ Below w.heap.size w w' := by
  have WR := wrong_calls level A n c vs l B m d ks w h hf hk
  generalize wrongS level l ks = z at *
  go_enter Try.func21, Try.ntmps21
  go_wp2_with (go_at_call 40; refine WR.mono ?_; rintro en w1 ⟨rfl, b1⟩)
  go_ret2
  exact ⟨rfl, b1⟩
theorem Encode_calls (level : Int) (A : Option Addr) (n c : Nat) (vs : List Value) (l : List (List UInt8)) (B : Option Addr) (m d : Nat) (ks : List (Int × Int)) (w : World) (h : RM w A n c vs l) (hf : Few n l) (hk : RK w B m d ks) :
    Calls Try.prog 21 #[.int .i64 level, .slice A n c, .slice B m d] w fun e w' => ∃ (A' : Option Addr) (n' : Nat), e = .returned (.tuple #[.slice A' n' n', .int .i64 (encB level l ks).2]) ∧ GB w' w.heap.size A' n' n' (encB level l ks).1 ∧ Below w.heap.size w w' := by
  by_cases hw : wrongS level l ks = 0
  · refine (Encode_ok level A n c vs l B m d ks w h hk hw).mono ?_
    rintro e w' ⟨g, rfl, h1, h2, h3⟩
    unfold encB
    rw [if_pos hw]
    exact ⟨_, _, rfl, GB.of h2 h1, h3⟩
  · refine (Encode_no level A n c vs l B m d ks w h hf hk hw).mono ?_
    rintro e w' ⟨rfl, h3⟩
    unfold encB
    rw [if_neg hw]
    exact ⟨none, 0, rfl, GB.none_ _ _, h3⟩
end Go.Proofs.Ythboanaogfmefaa
