/- coppicekept.Book: the kinds of which no list is kept. -/
import Derived.Test.YtmeakhiiebeneaaGreatDoorN1
namespace Go.Proofs.YtmeakhiiebeneaaGreatDoor
open Go.RowKit

theorem intsUntouched_nil (gk : Nat) (w : World) (hc : w.cell? ⟨gk, 5, none⟩ = some (.slice none 0 0)) :
    Calls Tryz.prog 117 #[.pointer (some ⟨gk, 0, none⟩)] w fun e w' => e = .returned (.bool true) ∧ w = w' := by
  go_enter Tryz.func117, Tryz.ntmps117
  go_wp2
  go_loop [3] (fun i => i = .int .i64 0) (fun _ => 0)
  case atStart => exact rfl
  case round =>
    obtain rfl := hrel
    go_wp2
    go_ret
    exact ⟨rfl, rfl⟩
theorem intsWrite_nil (gk : Nat) (z : Int) (w : World) (hc : w.cell? ⟨gk, 5, none⟩ = some (.slice none 0 0)) :
    Calls Tryz.prog 130 #[.pointer (some ⟨gk, 0, none⟩), .int .i64 z] w fun e w' => e = .returned (.int .i64 z) ∧ w = w' := by
  go_enter Tryz.func130, Tryz.ntmps130
  go_wp2
  go_loop [1, 5] (fun d i => d = .int .i64 z ∧ i = .int .i64 0) (fun _ _ => 0)
  case atStart => exact ⟨rfl, rfl⟩
  case round =>
    obtain ⟨rfl, rfl⟩ := hrel
    go_wp2
    go_ret
    exact ⟨rfl, rfl⟩
theorem intsHold_nil (gk : Nat) (z : Int) (w : World) (hc : w.cell? ⟨gk, 5, none⟩ = some (.slice none 0 0)) :
    Calls Tryz.prog 143 #[.pointer (some ⟨gk, 0, none⟩), .int .i64 z] w fun e w' => e = .returned (.tuple #[.int .i64 z, .bool true]) ∧ w = w' := by
  go_enter Tryz.func143, Tryz.ntmps143
  go_wp2
  go_loop [1, 6, 7] (fun d a i => d = .int .i64 z ∧ a = .bool true ∧ i = .int .i64 0) (fun _ _ _ => 0)
  case atStart => exact ⟨rfl, rfl, rfl⟩
  case round =>
    obtain ⟨rfl, rfl, rfl⟩ := hrel
    go_wp2
    go_ret2
    exact ⟨rfl, rfl⟩
theorem intsGrow_nil (gk : Nat) (z t : Int) (w : World) (hc : w.cell? ⟨gk, 5, none⟩ = some (.slice none 0 0)) :
    Calls Tryz.prog 156 #[.pointer (some ⟨gk, 0, none⟩), .int .i64 z, .int .i64 t] w fun e w' => e = .returned (.int .i64 z) ∧ w = w' := by
  go_enter Tryz.func156, Tryz.ntmps156
  go_wp2
  go_loop [1, 7] (fun d i => d = .int .i64 z ∧ i = .int .i64 0) (fun _ _ => 0)
  case atStart => exact ⟨rfl, rfl⟩
  case round =>
    obtain ⟨rfl, rfl⟩ := hrel
    go_wp2
    go_ret
    exact ⟨rfl, rfl⟩
theorem textsUntouched_nil (gk : Nat) (w : World) (hc : w.cell? ⟨gk, 8, none⟩ = some (.slice none 0 0)) :
    Calls Tryz.prog 118 #[.pointer (some ⟨gk, 0, none⟩)] w fun e w' => e = .returned (.bool true) ∧ w = w' := by
  go_enter Tryz.func118, Tryz.ntmps118
  go_wp2
  go_loop [3] (fun i => i = .int .i64 0) (fun _ => 0)
  case atStart => exact rfl
  case round =>
    obtain rfl := hrel
    go_wp2
    go_ret
    exact ⟨rfl, rfl⟩
theorem textsWrite_nil (gk : Nat) (z : Int) (w : World) (hc : w.cell? ⟨gk, 8, none⟩ = some (.slice none 0 0)) :
    Calls Tryz.prog 131 #[.pointer (some ⟨gk, 0, none⟩), .int .i64 z] w fun e w' => e = .returned (.int .i64 z) ∧ w = w' := by
  go_enter Tryz.func131, Tryz.ntmps131
  go_wp2
  go_loop [1, 5] (fun d i => d = .int .i64 z ∧ i = .int .i64 0) (fun _ _ => 0)
  case atStart => exact ⟨rfl, rfl⟩
  case round =>
    obtain ⟨rfl, rfl⟩ := hrel
    go_wp2
    go_ret
    exact ⟨rfl, rfl⟩
theorem textsHold_nil (gk : Nat) (z : Int) (w : World) (hc : w.cell? ⟨gk, 8, none⟩ = some (.slice none 0 0)) :
    Calls Tryz.prog 144 #[.pointer (some ⟨gk, 0, none⟩), .int .i64 z] w fun e w' => e = .returned (.tuple #[.int .i64 z, .bool true]) ∧ w = w' := by
  go_enter Tryz.func144, Tryz.ntmps144
  go_wp2
  go_loop [1, 6, 7] (fun d a i => d = .int .i64 z ∧ a = .bool true ∧ i = .int .i64 0) (fun _ _ _ => 0)
  case atStart => exact ⟨rfl, rfl, rfl⟩
  case round =>
    obtain ⟨rfl, rfl, rfl⟩ := hrel
    go_wp2
    go_ret2
    exact ⟨rfl, rfl⟩
theorem textsGrow_nil (gk : Nat) (z t : Int) (w : World) (hc : w.cell? ⟨gk, 8, none⟩ = some (.slice none 0 0)) :
    Calls Tryz.prog 157 #[.pointer (some ⟨gk, 0, none⟩), .int .i64 z, .int .i64 t] w fun e w' => e = .returned (.int .i64 z) ∧ w = w' := by
  go_enter Tryz.func157, Tryz.ntmps157
  go_wp2
  go_loop [1, 7] (fun d i => d = .int .i64 z ∧ i = .int .i64 0) (fun _ _ => 0)
  case atStart => exact ⟨rfl, rfl⟩
  case round =>
    obtain ⟨rfl, rfl⟩ := hrel
    go_wp2
    go_ret
    exact ⟨rfl, rfl⟩
theorem byteListsUntouched_nil (gk : Nat) (w : World) (hc : w.cell? ⟨gk, 11, none⟩ = some (.slice none 0 0)) :
    Calls Tryz.prog 119 #[.pointer (some ⟨gk, 0, none⟩)] w fun e w' => e = .returned (.bool true) ∧ w = w' := by
  go_enter Tryz.func119, Tryz.ntmps119
  go_wp2
  go_loop [3] (fun i => i = .int .i64 0) (fun _ => 0)
  case atStart => exact rfl
  case round =>
    obtain rfl := hrel
    go_wp2
    go_ret
    exact ⟨rfl, rfl⟩
theorem byteListsWrite_nil (gk : Nat) (z : Int) (w : World) (hc : w.cell? ⟨gk, 11, none⟩ = some (.slice none 0 0)) :
    Calls Tryz.prog 132 #[.pointer (some ⟨gk, 0, none⟩), .int .i64 z] w fun e w' => e = .returned (.int .i64 z) ∧ w = w' := by
  go_enter Tryz.func132, Tryz.ntmps132
  go_wp2
  go_loop [1, 5] (fun d i => d = .int .i64 z ∧ i = .int .i64 0) (fun _ _ => 0)
  case atStart => exact ⟨rfl, rfl⟩
  case round =>
    obtain ⟨rfl, rfl⟩ := hrel
    go_wp2
    go_ret
    exact ⟨rfl, rfl⟩
theorem byteListsHold_nil (gk : Nat) (z : Int) (w : World) (hc : w.cell? ⟨gk, 11, none⟩ = some (.slice none 0 0)) :
    Calls Tryz.prog 145 #[.pointer (some ⟨gk, 0, none⟩), .int .i64 z] w fun e w' => e = .returned (.tuple #[.int .i64 z, .bool true]) ∧ w = w' := by
  go_enter Tryz.func145, Tryz.ntmps145
  go_wp2
  go_loop [1, 6, 7] (fun d a i => d = .int .i64 z ∧ a = .bool true ∧ i = .int .i64 0) (fun _ _ _ => 0)
  case atStart => exact ⟨rfl, rfl, rfl⟩
  case round =>
    obtain ⟨rfl, rfl, rfl⟩ := hrel
    go_wp2
    go_ret2
    exact ⟨rfl, rfl⟩
theorem byteListsGrow_nil (gk : Nat) (z t : Int) (w : World) (hc : w.cell? ⟨gk, 11, none⟩ = some (.slice none 0 0)) :
    Calls Tryz.prog 158 #[.pointer (some ⟨gk, 0, none⟩), .int .i64 z, .int .i64 t] w fun e w' => e = .returned (.int .i64 z) ∧ w = w' := by
  go_enter Tryz.func158, Tryz.ntmps158
  go_wp2
  go_loop [1, 7] (fun d i => d = .int .i64 z ∧ i = .int .i64 0) (fun _ _ => 0)
  case atStart => exact ⟨rfl, rfl⟩
  case round =>
    obtain ⟨rfl, rfl⟩ := hrel
    go_wp2
    go_ret
    exact ⟨rfl, rfl⟩
theorem intListsUntouched_nil (gk : Nat) (w : World) (hc : w.cell? ⟨gk, 14, none⟩ = some (.slice none 0 0)) :
    Calls Tryz.prog 120 #[.pointer (some ⟨gk, 0, none⟩)] w fun e w' => e = .returned (.bool true) ∧ w = w' := by
  go_enter Tryz.func120, Tryz.ntmps120
  go_wp2
  go_loop [3] (fun i => i = .int .i64 0) (fun _ => 0)
  case atStart => exact rfl
  case round =>
    obtain rfl := hrel
    go_wp2
    go_ret
    exact ⟨rfl, rfl⟩
theorem intListsWrite_nil (gk : Nat) (z : Int) (w : World) (hc : w.cell? ⟨gk, 14, none⟩ = some (.slice none 0 0)) :
    Calls Tryz.prog 133 #[.pointer (some ⟨gk, 0, none⟩), .int .i64 z] w fun e w' => e = .returned (.int .i64 z) ∧ w = w' := by
  go_enter Tryz.func133, Tryz.ntmps133
  go_wp2
  go_loop [1, 5] (fun d i => d = .int .i64 z ∧ i = .int .i64 0) (fun _ _ => 0)
  case atStart => exact ⟨rfl, rfl⟩
  case round =>
    obtain ⟨rfl, rfl⟩ := hrel
    go_wp2
    go_ret
    exact ⟨rfl, rfl⟩
theorem intListsHold_nil (gk : Nat) (z : Int) (w : World) (hc : w.cell? ⟨gk, 14, none⟩ = some (.slice none 0 0)) :
    Calls Tryz.prog 146 #[.pointer (some ⟨gk, 0, none⟩), .int .i64 z] w fun e w' => e = .returned (.tuple #[.int .i64 z, .bool true]) ∧ w = w' := by
  go_enter Tryz.func146, Tryz.ntmps146
  go_wp2
  go_loop [1, 6, 7] (fun d a i => d = .int .i64 z ∧ a = .bool true ∧ i = .int .i64 0) (fun _ _ _ => 0)
  case atStart => exact ⟨rfl, rfl, rfl⟩
  case round =>
    obtain ⟨rfl, rfl, rfl⟩ := hrel
    go_wp2
    go_ret2
    exact ⟨rfl, rfl⟩
theorem intListsGrow_nil (gk : Nat) (z t : Int) (w : World) (hc : w.cell? ⟨gk, 14, none⟩ = some (.slice none 0 0)) :
    Calls Tryz.prog 159 #[.pointer (some ⟨gk, 0, none⟩), .int .i64 z, .int .i64 t] w fun e w' => e = .returned (.int .i64 z) ∧ w = w' := by
  go_enter Tryz.func159, Tryz.ntmps159
  go_wp2
  go_loop [1, 7] (fun d i => d = .int .i64 z ∧ i = .int .i64 0) (fun _ _ => 0)
  case atStart => exact ⟨rfl, rfl⟩
  case round =>
    obtain ⟨rfl, rfl⟩ := hrel
    go_wp2
    go_ret
    exact ⟨rfl, rfl⟩
theorem pairsUntouched_nil (gk : Nat) (w : World) (hc : w.cell? ⟨gk, 17, none⟩ = some (.slice none 0 0)) :
    Calls Tryz.prog 121 #[.pointer (some ⟨gk, 0, none⟩)] w fun e w' => e = .returned (.bool true) ∧ w = w' := by
  go_enter Tryz.func121, Tryz.ntmps121
  go_wp2
  go_loop [3] (fun i => i = .int .i64 0) (fun _ => 0)
  case atStart => exact rfl
  case round =>
    obtain rfl := hrel
    go_wp2
    go_ret
    exact ⟨rfl, rfl⟩
theorem pairsWrite_nil (gk : Nat) (z : Int) (w : World) (hc : w.cell? ⟨gk, 17, none⟩ = some (.slice none 0 0)) :
    Calls Tryz.prog 134 #[.pointer (some ⟨gk, 0, none⟩), .int .i64 z] w fun e w' => e = .returned (.int .i64 z) ∧ w = w' := by
  go_enter Tryz.func134, Tryz.ntmps134
  go_wp2
  go_loop [1, 5] (fun d i => d = .int .i64 z ∧ i = .int .i64 0) (fun _ _ => 0)
  case atStart => exact ⟨rfl, rfl⟩
  case round =>
    obtain ⟨rfl, rfl⟩ := hrel
    go_wp2
    go_ret
    exact ⟨rfl, rfl⟩
theorem pairsHold_nil (gk : Nat) (z : Int) (w : World) (hc : w.cell? ⟨gk, 17, none⟩ = some (.slice none 0 0)) :
    Calls Tryz.prog 147 #[.pointer (some ⟨gk, 0, none⟩), .int .i64 z] w fun e w' => e = .returned (.tuple #[.int .i64 z, .bool true]) ∧ w = w' := by
  go_enter Tryz.func147, Tryz.ntmps147
  go_wp2
  go_loop [1, 6, 7] (fun d a i => d = .int .i64 z ∧ a = .bool true ∧ i = .int .i64 0) (fun _ _ _ => 0)
  case atStart => exact ⟨rfl, rfl, rfl⟩
  case round =>
    obtain ⟨rfl, rfl, rfl⟩ := hrel
    go_wp2
    go_ret2
    exact ⟨rfl, rfl⟩
theorem pairsGrow_nil (gk : Nat) (z t : Int) (w : World) (hc : w.cell? ⟨gk, 17, none⟩ = some (.slice none 0 0)) :
    Calls Tryz.prog 160 #[.pointer (some ⟨gk, 0, none⟩), .int .i64 z, .int .i64 t] w fun e w' => e = .returned (.int .i64 z) ∧ w = w' := by
  go_enter Tryz.func160, Tryz.ntmps160
  go_wp2
  go_loop [1, 7] (fun d i => d = .int .i64 z ∧ i = .int .i64 0) (fun _ _ => 0)
  case atStart => exact ⟨rfl, rfl⟩
  case round =>
    obtain ⟨rfl, rfl⟩ := hrel
    go_wp2
    go_ret
    exact ⟨rfl, rfl⟩
theorem itemsUntouched_nil (gk : Nat) (w : World) (hc : w.cell? ⟨gk, 20, none⟩ = some (.slice none 0 0)) :
    Calls Tryz.prog 122 #[.pointer (some ⟨gk, 0, none⟩)] w fun e w' => e = .returned (.bool true) ∧ w = w' := by
  go_enter Tryz.func122, Tryz.ntmps122
  go_wp2
  go_loop [3] (fun i => i = .int .i64 0) (fun _ => 0)
  case atStart => exact rfl
  case round =>
    obtain rfl := hrel
    go_wp2
    go_ret
    exact ⟨rfl, rfl⟩
theorem itemsWrite_nil (gk : Nat) (z : Int) (w : World) (hc : w.cell? ⟨gk, 20, none⟩ = some (.slice none 0 0)) :
    Calls Tryz.prog 135 #[.pointer (some ⟨gk, 0, none⟩), .int .i64 z] w fun e w' => e = .returned (.int .i64 z) ∧ w = w' := by
  go_enter Tryz.func135, Tryz.ntmps135
  go_wp2
  go_loop [1, 5] (fun d i => d = .int .i64 z ∧ i = .int .i64 0) (fun _ _ => 0)
  case atStart => exact ⟨rfl, rfl⟩
  case round =>
    obtain ⟨rfl, rfl⟩ := hrel
    go_wp2
    go_ret
    exact ⟨rfl, rfl⟩
theorem itemsHold_nil (gk : Nat) (z : Int) (w : World) (hc : w.cell? ⟨gk, 20, none⟩ = some (.slice none 0 0)) :
    Calls Tryz.prog 148 #[.pointer (some ⟨gk, 0, none⟩), .int .i64 z] w fun e w' => e = .returned (.tuple #[.int .i64 z, .bool true]) ∧ w = w' := by
  go_enter Tryz.func148, Tryz.ntmps148
  go_wp2
  go_loop [1, 6, 7] (fun d a i => d = .int .i64 z ∧ a = .bool true ∧ i = .int .i64 0) (fun _ _ _ => 0)
  case atStart => exact ⟨rfl, rfl, rfl⟩
  case round =>
    obtain ⟨rfl, rfl, rfl⟩ := hrel
    go_wp2
    go_ret2
    exact ⟨rfl, rfl⟩
theorem itemsGrow_nil (gk : Nat) (z t : Int) (w : World) (hc : w.cell? ⟨gk, 20, none⟩ = some (.slice none 0 0)) :
    Calls Tryz.prog 161 #[.pointer (some ⟨gk, 0, none⟩), .int .i64 z, .int .i64 t] w fun e w' => e = .returned (.int .i64 z) ∧ w = w' := by
  go_enter Tryz.func161, Tryz.ntmps161
  go_wp2
  go_loop [1, 7] (fun d i => d = .int .i64 z ∧ i = .int .i64 0) (fun _ _ => 0)
  case atStart => exact ⟨rfl, rfl⟩
  case round =>
    obtain ⟨rfl, rfl⟩ := hrel
    go_wp2
    go_ret
    exact ⟨rfl, rfl⟩
theorem kidsUntouched_nil (gk : Nat) (w : World) (hc : w.cell? ⟨gk, 23, none⟩ = some (.slice none 0 0)) :
    Calls Tryz.prog 123 #[.pointer (some ⟨gk, 0, none⟩)] w fun e w' => e = .returned (.bool true) ∧ w = w' := by
  go_enter Tryz.func123, Tryz.ntmps123
  go_wp2
  go_loop [3] (fun i => i = .int .i64 0) (fun _ => 0)
  case atStart => exact rfl
  case round =>
    obtain rfl := hrel
    go_wp2
    go_ret
    exact ⟨rfl, rfl⟩
theorem kidsWrite_nil (gk : Nat) (z : Int) (w : World) (hc : w.cell? ⟨gk, 23, none⟩ = some (.slice none 0 0)) :
    Calls Tryz.prog 136 #[.pointer (some ⟨gk, 0, none⟩), .int .i64 z] w fun e w' => e = .returned (.int .i64 z) ∧ w = w' := by
  go_enter Tryz.func136, Tryz.ntmps136
  go_wp2
  go_loop [1, 5] (fun d i => d = .int .i64 z ∧ i = .int .i64 0) (fun _ _ => 0)
  case atStart => exact ⟨rfl, rfl⟩
  case round =>
    obtain ⟨rfl, rfl⟩ := hrel
    go_wp2
    go_ret
    exact ⟨rfl, rfl⟩
theorem kidsHold_nil (gk : Nat) (z : Int) (w : World) (hc : w.cell? ⟨gk, 23, none⟩ = some (.slice none 0 0)) :
    Calls Tryz.prog 149 #[.pointer (some ⟨gk, 0, none⟩), .int .i64 z] w fun e w' => e = .returned (.tuple #[.int .i64 z, .bool true]) ∧ w = w' := by
  go_enter Tryz.func149, Tryz.ntmps149
  go_wp2
  go_loop [1, 6, 7] (fun d a i => d = .int .i64 z ∧ a = .bool true ∧ i = .int .i64 0) (fun _ _ _ => 0)
  case atStart => exact ⟨rfl, rfl, rfl⟩
  case round =>
    obtain ⟨rfl, rfl, rfl⟩ := hrel
    go_wp2
    go_ret2
    exact ⟨rfl, rfl⟩
theorem kidsGrow_nil (gk : Nat) (z t : Int) (w : World) (hc : w.cell? ⟨gk, 23, none⟩ = some (.slice none 0 0)) :
    Calls Tryz.prog 162 #[.pointer (some ⟨gk, 0, none⟩), .int .i64 z, .int .i64 t] w fun e w' => e = .returned (.int .i64 z) ∧ w = w' := by
  go_enter Tryz.func162, Tryz.ntmps162
  go_wp2
  go_loop [1, 7] (fun d i => d = .int .i64 z ∧ i = .int .i64 0) (fun _ _ => 0)
  case atStart => exact ⟨rfl, rfl⟩
  case round =>
    obtain ⟨rfl, rfl⟩ := hrel
    go_wp2
    go_ret
    exact ⟨rfl, rfl⟩
theorem nodesUntouched_nil (gk : Nat) (w : World) (hc : w.cell? ⟨gk, 26, none⟩ = some (.slice none 0 0)) :
    Calls Tryz.prog 124 #[.pointer (some ⟨gk, 0, none⟩)] w fun e w' => e = .returned (.bool true) ∧ w = w' := by
  go_enter Tryz.func124, Tryz.ntmps124
  go_wp2
  go_loop [3] (fun i => i = .int .i64 0) (fun _ => 0)
  case atStart => exact rfl
  case round =>
    obtain rfl := hrel
    go_wp2
    go_ret
    exact ⟨rfl, rfl⟩
theorem nodesWrite_nil (gk : Nat) (z : Int) (w : World) (hc : w.cell? ⟨gk, 26, none⟩ = some (.slice none 0 0)) :
    Calls Tryz.prog 137 #[.pointer (some ⟨gk, 0, none⟩), .int .i64 z] w fun e w' => e = .returned (.int .i64 z) ∧ w = w' := by
  go_enter Tryz.func137, Tryz.ntmps137
  go_wp2
  go_loop [1, 5] (fun d i => d = .int .i64 z ∧ i = .int .i64 0) (fun _ _ => 0)
  case atStart => exact ⟨rfl, rfl⟩
  case round =>
    obtain ⟨rfl, rfl⟩ := hrel
    go_wp2
    go_ret
    exact ⟨rfl, rfl⟩
theorem nodesHold_nil (gk : Nat) (z : Int) (w : World) (hc : w.cell? ⟨gk, 26, none⟩ = some (.slice none 0 0)) :
    Calls Tryz.prog 150 #[.pointer (some ⟨gk, 0, none⟩), .int .i64 z] w fun e w' => e = .returned (.tuple #[.int .i64 z, .bool true]) ∧ w = w' := by
  go_enter Tryz.func150, Tryz.ntmps150
  go_wp2
  go_loop [1, 6, 7] (fun d a i => d = .int .i64 z ∧ a = .bool true ∧ i = .int .i64 0) (fun _ _ _ => 0)
  case atStart => exact ⟨rfl, rfl, rfl⟩
  case round =>
    obtain ⟨rfl, rfl, rfl⟩ := hrel
    go_wp2
    go_ret2
    exact ⟨rfl, rfl⟩
theorem nodesGrow_nil (gk : Nat) (z t : Int) (w : World) (hc : w.cell? ⟨gk, 26, none⟩ = some (.slice none 0 0)) :
    Calls Tryz.prog 163 #[.pointer (some ⟨gk, 0, none⟩), .int .i64 z, .int .i64 t] w fun e w' => e = .returned (.int .i64 z) ∧ w = w' := by
  go_enter Tryz.func163, Tryz.ntmps163
  go_wp2
  go_loop [1, 7] (fun d i => d = .int .i64 z ∧ i = .int .i64 0) (fun _ _ => 0)
  case atStart => exact ⟨rfl, rfl⟩
  case round =>
    obtain ⟨rfl, rfl⟩ := hrel
    go_wp2
    go_ret
    exact ⟨rfl, rfl⟩
theorem writesUntouched_nil (gk : Nat) (w : World) (hc : w.cell? ⟨gk, 29, none⟩ = some (.slice none 0 0)) :
    Calls Tryz.prog 125 #[.pointer (some ⟨gk, 0, none⟩)] w fun e w' => e = .returned (.bool true) ∧ w = w' := by
  go_enter Tryz.func125, Tryz.ntmps125
  go_wp2
  go_loop [3] (fun i => i = .int .i64 0) (fun _ => 0)
  case atStart => exact rfl
  case round =>
    obtain rfl := hrel
    go_wp2
    go_ret
    exact ⟨rfl, rfl⟩
theorem writesWrite_nil (gk : Nat) (z : Int) (w : World) (hc : w.cell? ⟨gk, 29, none⟩ = some (.slice none 0 0)) :
    Calls Tryz.prog 138 #[.pointer (some ⟨gk, 0, none⟩), .int .i64 z] w fun e w' => e = .returned (.int .i64 z) ∧ w = w' := by
  go_enter Tryz.func138, Tryz.ntmps138
  go_wp2
  go_loop [1, 5] (fun d i => d = .int .i64 z ∧ i = .int .i64 0) (fun _ _ => 0)
  case atStart => exact ⟨rfl, rfl⟩
  case round =>
    obtain ⟨rfl, rfl⟩ := hrel
    go_wp2
    go_ret
    exact ⟨rfl, rfl⟩
theorem writesHold_nil (gk : Nat) (z : Int) (w : World) (hc : w.cell? ⟨gk, 29, none⟩ = some (.slice none 0 0)) :
    Calls Tryz.prog 151 #[.pointer (some ⟨gk, 0, none⟩), .int .i64 z] w fun e w' => e = .returned (.tuple #[.int .i64 z, .bool true]) ∧ w = w' := by
  go_enter Tryz.func151, Tryz.ntmps151
  go_wp2
  go_loop [1, 6, 7] (fun d a i => d = .int .i64 z ∧ a = .bool true ∧ i = .int .i64 0) (fun _ _ _ => 0)
  case atStart => exact ⟨rfl, rfl, rfl⟩
  case round =>
    obtain ⟨rfl, rfl, rfl⟩ := hrel
    go_wp2
    go_ret2
    exact ⟨rfl, rfl⟩
theorem writesGrow_nil (gk : Nat) (z t : Int) (w : World) (hc : w.cell? ⟨gk, 29, none⟩ = some (.slice none 0 0)) :
    Calls Tryz.prog 164 #[.pointer (some ⟨gk, 0, none⟩), .int .i64 z, .int .i64 t] w fun e w' => e = .returned (.int .i64 z) ∧ w = w' := by
  go_enter Tryz.func164, Tryz.ntmps164
  go_wp2
  go_loop [1, 7] (fun d i => d = .int .i64 z ∧ i = .int .i64 0) (fun _ _ => 0)
  case atStart => exact ⟨rfl, rfl⟩
  case round =>
    obtain ⟨rfl, rfl⟩ := hrel
    go_wp2
    go_ret
    exact ⟨rfl, rfl⟩
theorem changesUntouched_nil (gk : Nat) (w : World) (hc : w.cell? ⟨gk, 32, none⟩ = some (.slice none 0 0)) :
    Calls Tryz.prog 126 #[.pointer (some ⟨gk, 0, none⟩)] w fun e w' => e = .returned (.bool true) ∧ w = w' := by
  go_enter Tryz.func126, Tryz.ntmps126
  go_wp2
  go_loop [3] (fun i => i = .int .i64 0) (fun _ => 0)
  case atStart => exact rfl
  case round =>
    obtain rfl := hrel
    go_wp2
    go_ret
    exact ⟨rfl, rfl⟩
theorem changesWrite_nil (gk : Nat) (z : Int) (w : World) (hc : w.cell? ⟨gk, 32, none⟩ = some (.slice none 0 0)) :
    Calls Tryz.prog 139 #[.pointer (some ⟨gk, 0, none⟩), .int .i64 z] w fun e w' => e = .returned (.int .i64 z) ∧ w = w' := by
  go_enter Tryz.func139, Tryz.ntmps139
  go_wp2
  go_loop [1, 5] (fun d i => d = .int .i64 z ∧ i = .int .i64 0) (fun _ _ => 0)
  case atStart => exact ⟨rfl, rfl⟩
  case round =>
    obtain ⟨rfl, rfl⟩ := hrel
    go_wp2
    go_ret
    exact ⟨rfl, rfl⟩
theorem changesHold_nil (gk : Nat) (z : Int) (w : World) (hc : w.cell? ⟨gk, 32, none⟩ = some (.slice none 0 0)) :
    Calls Tryz.prog 152 #[.pointer (some ⟨gk, 0, none⟩), .int .i64 z] w fun e w' => e = .returned (.tuple #[.int .i64 z, .bool true]) ∧ w = w' := by
  go_enter Tryz.func152, Tryz.ntmps152
  go_wp2
  go_loop [1, 6, 7] (fun d a i => d = .int .i64 z ∧ a = .bool true ∧ i = .int .i64 0) (fun _ _ _ => 0)
  case atStart => exact ⟨rfl, rfl, rfl⟩
  case round =>
    obtain ⟨rfl, rfl, rfl⟩ := hrel
    go_wp2
    go_ret2
    exact ⟨rfl, rfl⟩
theorem changesGrow_nil (gk : Nat) (z t : Int) (w : World) (hc : w.cell? ⟨gk, 32, none⟩ = some (.slice none 0 0)) :
    Calls Tryz.prog 165 #[.pointer (some ⟨gk, 0, none⟩), .int .i64 z, .int .i64 t] w fun e w' => e = .returned (.int .i64 z) ∧ w = w' := by
  go_enter Tryz.func165, Tryz.ntmps165
  go_wp2
  go_loop [1, 7] (fun d i => d = .int .i64 z ∧ i = .int .i64 0) (fun _ _ => 0)
  case atStart => exact ⟨rfl, rfl⟩
  case round =>
    obtain ⟨rfl, rfl⟩ := hrel
    go_wp2
    go_ret
    exact ⟨rfl, rfl⟩
theorem fatesUntouched_nil (gk : Nat) (w : World) (hc : w.cell? ⟨gk, 35, none⟩ = some (.slice none 0 0)) :
    Calls Tryz.prog 127 #[.pointer (some ⟨gk, 0, none⟩)] w fun e w' => e = .returned (.bool true) ∧ w = w' := by
  go_enter Tryz.func127, Tryz.ntmps127
  go_wp2
  go_loop [3] (fun i => i = .int .i64 0) (fun _ => 0)
  case atStart => exact rfl
  case round =>
    obtain rfl := hrel
    go_wp2
    go_ret
    exact ⟨rfl, rfl⟩
theorem fatesWrite_nil (gk : Nat) (z : Int) (w : World) (hc : w.cell? ⟨gk, 35, none⟩ = some (.slice none 0 0)) :
    Calls Tryz.prog 140 #[.pointer (some ⟨gk, 0, none⟩), .int .i64 z] w fun e w' => e = .returned (.int .i64 z) ∧ w = w' := by
  go_enter Tryz.func140, Tryz.ntmps140
  go_wp2
  go_loop [1, 5] (fun d i => d = .int .i64 z ∧ i = .int .i64 0) (fun _ _ => 0)
  case atStart => exact ⟨rfl, rfl⟩
  case round =>
    obtain ⟨rfl, rfl⟩ := hrel
    go_wp2
    go_ret
    exact ⟨rfl, rfl⟩
theorem fatesHold_nil (gk : Nat) (z : Int) (w : World) (hc : w.cell? ⟨gk, 35, none⟩ = some (.slice none 0 0)) :
    Calls Tryz.prog 153 #[.pointer (some ⟨gk, 0, none⟩), .int .i64 z] w fun e w' => e = .returned (.tuple #[.int .i64 z, .bool true]) ∧ w = w' := by
  go_enter Tryz.func153, Tryz.ntmps153
  go_wp2
  go_loop [1, 6, 7] (fun d a i => d = .int .i64 z ∧ a = .bool true ∧ i = .int .i64 0) (fun _ _ _ => 0)
  case atStart => exact ⟨rfl, rfl, rfl⟩
  case round =>
    obtain ⟨rfl, rfl, rfl⟩ := hrel
    go_wp2
    go_ret2
    exact ⟨rfl, rfl⟩
theorem fatesGrow_nil (gk : Nat) (z t : Int) (w : World) (hc : w.cell? ⟨gk, 35, none⟩ = some (.slice none 0 0)) :
    Calls Tryz.prog 166 #[.pointer (some ⟨gk, 0, none⟩), .int .i64 z, .int .i64 t] w fun e w' => e = .returned (.int .i64 z) ∧ w = w' := by
  go_enter Tryz.func166, Tryz.ntmps166
  go_wp2
  go_loop [1, 7] (fun d i => d = .int .i64 z ∧ i = .int .i64 0) (fun _ _ => 0)
  case atStart => exact ⟨rfl, rfl⟩
  case round =>
    obtain ⟨rfl, rfl⟩ := hrel
    go_wp2
    go_ret
    exact ⟨rfl, rfl⟩
theorem opsUntouched_nil (gk : Nat) (w : World) (hc : w.cell? ⟨gk, 38, none⟩ = some (.slice none 0 0)) :
    Calls Tryz.prog 128 #[.pointer (some ⟨gk, 0, none⟩)] w fun e w' => e = .returned (.bool true) ∧ w = w' := by
  go_enter Tryz.func128, Tryz.ntmps128
  go_wp2
  go_loop [3] (fun i => i = .int .i64 0) (fun _ => 0)
  case atStart => exact rfl
  case round =>
    obtain rfl := hrel
    go_wp2
    go_ret
    exact ⟨rfl, rfl⟩
theorem opsWrite_nil (gk : Nat) (z : Int) (w : World) (hc : w.cell? ⟨gk, 38, none⟩ = some (.slice none 0 0)) :
    Calls Tryz.prog 141 #[.pointer (some ⟨gk, 0, none⟩), .int .i64 z] w fun e w' => e = .returned (.int .i64 z) ∧ w = w' := by
  go_enter Tryz.func141, Tryz.ntmps141
  go_wp2
  go_loop [1, 5] (fun d i => d = .int .i64 z ∧ i = .int .i64 0) (fun _ _ => 0)
  case atStart => exact ⟨rfl, rfl⟩
  case round =>
    obtain ⟨rfl, rfl⟩ := hrel
    go_wp2
    go_ret
    exact ⟨rfl, rfl⟩
theorem opsHold_nil (gk : Nat) (z : Int) (w : World) (hc : w.cell? ⟨gk, 38, none⟩ = some (.slice none 0 0)) :
    Calls Tryz.prog 154 #[.pointer (some ⟨gk, 0, none⟩), .int .i64 z] w fun e w' => e = .returned (.tuple #[.int .i64 z, .bool true]) ∧ w = w' := by
  go_enter Tryz.func154, Tryz.ntmps154
  go_wp2
  go_loop [1, 6, 7] (fun d a i => d = .int .i64 z ∧ a = .bool true ∧ i = .int .i64 0) (fun _ _ _ => 0)
  case atStart => exact ⟨rfl, rfl, rfl⟩
  case round =>
    obtain ⟨rfl, rfl, rfl⟩ := hrel
    go_wp2
    go_ret2
    exact ⟨rfl, rfl⟩
theorem opsGrow_nil (gk : Nat) (z t : Int) (w : World) (hc : w.cell? ⟨gk, 38, none⟩ = some (.slice none 0 0)) :
    Calls Tryz.prog 167 #[.pointer (some ⟨gk, 0, none⟩), .int .i64 z, .int .i64 t] w fun e w' => e = .returned (.int .i64 z) ∧ w = w' := by
  go_enter Tryz.func167, Tryz.ntmps167
  go_wp2
  go_loop [1, 7] (fun d i => d = .int .i64 z ∧ i = .int .i64 0) (fun _ _ => 0)
  case atStart => exact ⟨rfl, rfl⟩
  case round =>
    obtain ⟨rfl, rfl⟩ := hrel
    go_wp2
    go_ret
    exact ⟨rfl, rfl⟩
end Go.Proofs.YtmeakhiiebeneaaGreatDoor
