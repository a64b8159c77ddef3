/- coppicekept.Book: the kinds of which no list is kept. -/
import Derived.Test.YtenalocpmigppaaGreatDoorKb
namespace Go.Proofs.YtenalocpmigppaaGreatDoor
open Go.RowKit

theorem intsUntouched_nil (gk : Nat) (w : World) (hc : w.cell? ⟨gk, 5, none⟩ = some (.slice none 0 0)) :
    Calls Tryz.prog 83 #[.pointer (some ⟨gk, 0, none⟩)] w fun e w' => e = .returned (.bool true) ∧ w = w' := by
  go_enter Tryz.func83, Tryz.ntmps83
  go_wp2
  go_loop [3] (fun i => i = .int .i64 0) (fun _ => 0)
  case atStart => exact rfl
  case round =>
    obtain rfl := hrel
    go_wp2
    go_ret
    exact ⟨rfl, rfl⟩
theorem intsWrite_nil (gk : Nat) (z : Int) (w : World) (hc : w.cell? ⟨gk, 5, none⟩ = some (.slice none 0 0)) :
    Calls Tryz.prog 96 #[.pointer (some ⟨gk, 0, none⟩), .int .i64 z] w fun e w' => e = .returned (.int .i64 z) ∧ w = w' := by
  go_enter Tryz.func96, Tryz.ntmps96
  go_wp2
  go_loop [1, 5] (fun d i => d = .int .i64 z ∧ i = .int .i64 0) (fun _ _ => 0)
  case atStart => exact ⟨rfl, rfl⟩
  case round =>
    obtain ⟨rfl, rfl⟩ := hrel
    go_wp2
    go_ret
    exact ⟨rfl, rfl⟩
theorem intsHold_nil (gk : Nat) (z : Int) (w : World) (hc : w.cell? ⟨gk, 5, none⟩ = some (.slice none 0 0)) :
    Calls Tryz.prog 109 #[.pointer (some ⟨gk, 0, none⟩), .int .i64 z] w fun e w' => e = .returned (.tuple #[.int .i64 z, .bool true]) ∧ w = w' := by
  go_enter Tryz.func109, Tryz.ntmps109
  go_wp2
  go_loop [1, 6, 7] (fun d a i => d = .int .i64 z ∧ a = .bool true ∧ i = .int .i64 0) (fun _ _ _ => 0)
  case atStart => exact ⟨rfl, rfl, rfl⟩
  case round =>
    obtain ⟨rfl, rfl, rfl⟩ := hrel
    go_wp2
    go_ret2
    exact ⟨rfl, rfl⟩
theorem intsGrow_nil (gk : Nat) (z t : Int) (w : World) (hc : w.cell? ⟨gk, 5, none⟩ = some (.slice none 0 0)) :
    Calls Tryz.prog 122 #[.pointer (some ⟨gk, 0, none⟩), .int .i64 z, .int .i64 t] w fun e w' => e = .returned (.int .i64 z) ∧ w = w' := by
  go_enter Tryz.func122, Tryz.ntmps122
  go_wp2
  go_loop [1, 7] (fun d i => d = .int .i64 z ∧ i = .int .i64 0) (fun _ _ => 0)
  case atStart => exact ⟨rfl, rfl⟩
  case round =>
    obtain ⟨rfl, rfl⟩ := hrel
    go_wp2
    go_ret
    exact ⟨rfl, rfl⟩
theorem textsUntouched_nil (gk : Nat) (w : World) (hc : w.cell? ⟨gk, 8, none⟩ = some (.slice none 0 0)) :
    Calls Tryz.prog 84 #[.pointer (some ⟨gk, 0, none⟩)] w fun e w' => e = .returned (.bool true) ∧ w = w' := by
  go_enter Tryz.func84, Tryz.ntmps84
  go_wp2
  go_loop [3] (fun i => i = .int .i64 0) (fun _ => 0)
  case atStart => exact rfl
  case round =>
    obtain rfl := hrel
    go_wp2
    go_ret
    exact ⟨rfl, rfl⟩
theorem textsWrite_nil (gk : Nat) (z : Int) (w : World) (hc : w.cell? ⟨gk, 8, none⟩ = some (.slice none 0 0)) :
    Calls Tryz.prog 97 #[.pointer (some ⟨gk, 0, none⟩), .int .i64 z] w fun e w' => e = .returned (.int .i64 z) ∧ w = w' := by
  go_enter Tryz.func97, Tryz.ntmps97
  go_wp2
  go_loop [1, 5] (fun d i => d = .int .i64 z ∧ i = .int .i64 0) (fun _ _ => 0)
  case atStart => exact ⟨rfl, rfl⟩
  case round =>
    obtain ⟨rfl, rfl⟩ := hrel
    go_wp2
    go_ret
    exact ⟨rfl, rfl⟩
theorem textsHold_nil (gk : Nat) (z : Int) (w : World) (hc : w.cell? ⟨gk, 8, none⟩ = some (.slice none 0 0)) :
    Calls Tryz.prog 110 #[.pointer (some ⟨gk, 0, none⟩), .int .i64 z] w fun e w' => e = .returned (.tuple #[.int .i64 z, .bool true]) ∧ w = w' := by
  go_enter Tryz.func110, Tryz.ntmps110
  go_wp2
  go_loop [1, 6, 7] (fun d a i => d = .int .i64 z ∧ a = .bool true ∧ i = .int .i64 0) (fun _ _ _ => 0)
  case atStart => exact ⟨rfl, rfl, rfl⟩
  case round =>
    obtain ⟨rfl, rfl, rfl⟩ := hrel
    go_wp2
    go_ret2
    exact ⟨rfl, rfl⟩
theorem textsGrow_nil (gk : Nat) (z t : Int) (w : World) (hc : w.cell? ⟨gk, 8, none⟩ = some (.slice none 0 0)) :
    Calls Tryz.prog 123 #[.pointer (some ⟨gk, 0, none⟩), .int .i64 z, .int .i64 t] w fun e w' => e = .returned (.int .i64 z) ∧ w = w' := by
  go_enter Tryz.func123, Tryz.ntmps123
  go_wp2
  go_loop [1, 7] (fun d i => d = .int .i64 z ∧ i = .int .i64 0) (fun _ _ => 0)
  case atStart => exact ⟨rfl, rfl⟩
  case round =>
    obtain ⟨rfl, rfl⟩ := hrel
    go_wp2
    go_ret
    exact ⟨rfl, rfl⟩
theorem byteListsUntouched_nil (gk : Nat) (w : World) (hc : w.cell? ⟨gk, 11, none⟩ = some (.slice none 0 0)) :
    Calls Tryz.prog 85 #[.pointer (some ⟨gk, 0, none⟩)] w fun e w' => e = .returned (.bool true) ∧ w = w' := by
  go_enter Tryz.func85, Tryz.ntmps85
  go_wp2
  go_loop [3] (fun i => i = .int .i64 0) (fun _ => 0)
  case atStart => exact rfl
  case round =>
    obtain rfl := hrel
    go_wp2
    go_ret
    exact ⟨rfl, rfl⟩
theorem byteListsWrite_nil (gk : Nat) (z : Int) (w : World) (hc : w.cell? ⟨gk, 11, none⟩ = some (.slice none 0 0)) :
    Calls Tryz.prog 98 #[.pointer (some ⟨gk, 0, none⟩), .int .i64 z] w fun e w' => e = .returned (.int .i64 z) ∧ w = w' := by
  go_enter Tryz.func98, Tryz.ntmps98
  go_wp2
  go_loop [1, 5] (fun d i => d = .int .i64 z ∧ i = .int .i64 0) (fun _ _ => 0)
  case atStart => exact ⟨rfl, rfl⟩
  case round =>
    obtain ⟨rfl, rfl⟩ := hrel
    go_wp2
    go_ret
    exact ⟨rfl, rfl⟩
theorem byteListsHold_nil (gk : Nat) (z : Int) (w : World) (hc : w.cell? ⟨gk, 11, none⟩ = some (.slice none 0 0)) :
    Calls Tryz.prog 111 #[.pointer (some ⟨gk, 0, none⟩), .int .i64 z] w fun e w' => e = .returned (.tuple #[.int .i64 z, .bool true]) ∧ w = w' := by
  go_enter Tryz.func111, Tryz.ntmps111
  go_wp2
  go_loop [1, 6, 7] (fun d a i => d = .int .i64 z ∧ a = .bool true ∧ i = .int .i64 0) (fun _ _ _ => 0)
  case atStart => exact ⟨rfl, rfl, rfl⟩
  case round =>
    obtain ⟨rfl, rfl, rfl⟩ := hrel
    go_wp2
    go_ret2
    exact ⟨rfl, rfl⟩
theorem byteListsGrow_nil (gk : Nat) (z t : Int) (w : World) (hc : w.cell? ⟨gk, 11, none⟩ = some (.slice none 0 0)) :
    Calls Tryz.prog 124 #[.pointer (some ⟨gk, 0, none⟩), .int .i64 z, .int .i64 t] w fun e w' => e = .returned (.int .i64 z) ∧ w = w' := by
  go_enter Tryz.func124, Tryz.ntmps124
  go_wp2
  go_loop [1, 7] (fun d i => d = .int .i64 z ∧ i = .int .i64 0) (fun _ _ => 0)
  case atStart => exact ⟨rfl, rfl⟩
  case round =>
    obtain ⟨rfl, rfl⟩ := hrel
    go_wp2
    go_ret
    exact ⟨rfl, rfl⟩
theorem intListsUntouched_nil (gk : Nat) (w : World) (hc : w.cell? ⟨gk, 14, none⟩ = some (.slice none 0 0)) :
    Calls Tryz.prog 86 #[.pointer (some ⟨gk, 0, none⟩)] w fun e w' => e = .returned (.bool true) ∧ w = w' := by
  go_enter Tryz.func86, Tryz.ntmps86
  go_wp2
  go_loop [3] (fun i => i = .int .i64 0) (fun _ => 0)
  case atStart => exact rfl
  case round =>
    obtain rfl := hrel
    go_wp2
    go_ret
    exact ⟨rfl, rfl⟩
theorem intListsWrite_nil (gk : Nat) (z : Int) (w : World) (hc : w.cell? ⟨gk, 14, none⟩ = some (.slice none 0 0)) :
    Calls Tryz.prog 99 #[.pointer (some ⟨gk, 0, none⟩), .int .i64 z] w fun e w' => e = .returned (.int .i64 z) ∧ w = w' := by
  go_enter Tryz.func99, Tryz.ntmps99
  go_wp2
  go_loop [1, 5] (fun d i => d = .int .i64 z ∧ i = .int .i64 0) (fun _ _ => 0)
  case atStart => exact ⟨rfl, rfl⟩
  case round =>
    obtain ⟨rfl, rfl⟩ := hrel
    go_wp2
    go_ret
    exact ⟨rfl, rfl⟩
theorem intListsHold_nil (gk : Nat) (z : Int) (w : World) (hc : w.cell? ⟨gk, 14, none⟩ = some (.slice none 0 0)) :
    Calls Tryz.prog 112 #[.pointer (some ⟨gk, 0, none⟩), .int .i64 z] w fun e w' => e = .returned (.tuple #[.int .i64 z, .bool true]) ∧ w = w' := by
  go_enter Tryz.func112, Tryz.ntmps112
  go_wp2
  go_loop [1, 6, 7] (fun d a i => d = .int .i64 z ∧ a = .bool true ∧ i = .int .i64 0) (fun _ _ _ => 0)
  case atStart => exact ⟨rfl, rfl, rfl⟩
  case round =>
    obtain ⟨rfl, rfl, rfl⟩ := hrel
    go_wp2
    go_ret2
    exact ⟨rfl, rfl⟩
theorem intListsGrow_nil (gk : Nat) (z t : Int) (w : World) (hc : w.cell? ⟨gk, 14, none⟩ = some (.slice none 0 0)) :
    Calls Tryz.prog 125 #[.pointer (some ⟨gk, 0, none⟩), .int .i64 z, .int .i64 t] w fun e w' => e = .returned (.int .i64 z) ∧ w = w' := by
  go_enter Tryz.func125, Tryz.ntmps125
  go_wp2
  go_loop [1, 7] (fun d i => d = .int .i64 z ∧ i = .int .i64 0) (fun _ _ => 0)
  case atStart => exact ⟨rfl, rfl⟩
  case round =>
    obtain ⟨rfl, rfl⟩ := hrel
    go_wp2
    go_ret
    exact ⟨rfl, rfl⟩
theorem pairsUntouched_nil (gk : Nat) (w : World) (hc : w.cell? ⟨gk, 17, none⟩ = some (.slice none 0 0)) :
    Calls Tryz.prog 87 #[.pointer (some ⟨gk, 0, none⟩)] w fun e w' => e = .returned (.bool true) ∧ w = w' := by
  go_enter Tryz.func87, Tryz.ntmps87
  go_wp2
  go_loop [3] (fun i => i = .int .i64 0) (fun _ => 0)
  case atStart => exact rfl
  case round =>
    obtain rfl := hrel
    go_wp2
    go_ret
    exact ⟨rfl, rfl⟩
theorem pairsWrite_nil (gk : Nat) (z : Int) (w : World) (hc : w.cell? ⟨gk, 17, none⟩ = some (.slice none 0 0)) :
    Calls Tryz.prog 100 #[.pointer (some ⟨gk, 0, none⟩), .int .i64 z] w fun e w' => e = .returned (.int .i64 z) ∧ w = w' := by
  go_enter Tryz.func100, Tryz.ntmps100
  go_wp2
  go_loop [1, 5] (fun d i => d = .int .i64 z ∧ i = .int .i64 0) (fun _ _ => 0)
  case atStart => exact ⟨rfl, rfl⟩
  case round =>
    obtain ⟨rfl, rfl⟩ := hrel
    go_wp2
    go_ret
    exact ⟨rfl, rfl⟩
theorem pairsHold_nil (gk : Nat) (z : Int) (w : World) (hc : w.cell? ⟨gk, 17, none⟩ = some (.slice none 0 0)) :
    Calls Tryz.prog 113 #[.pointer (some ⟨gk, 0, none⟩), .int .i64 z] w fun e w' => e = .returned (.tuple #[.int .i64 z, .bool true]) ∧ w = w' := by
  go_enter Tryz.func113, Tryz.ntmps113
  go_wp2
  go_loop [1, 6, 7] (fun d a i => d = .int .i64 z ∧ a = .bool true ∧ i = .int .i64 0) (fun _ _ _ => 0)
  case atStart => exact ⟨rfl, rfl, rfl⟩
  case round =>
    obtain ⟨rfl, rfl, rfl⟩ := hrel
    go_wp2
    go_ret2
    exact ⟨rfl, rfl⟩
theorem pairsGrow_nil (gk : Nat) (z t : Int) (w : World) (hc : w.cell? ⟨gk, 17, none⟩ = some (.slice none 0 0)) :
    Calls Tryz.prog 126 #[.pointer (some ⟨gk, 0, none⟩), .int .i64 z, .int .i64 t] w fun e w' => e = .returned (.int .i64 z) ∧ w = w' := by
  go_enter Tryz.func126, Tryz.ntmps126
  go_wp2
  go_loop [1, 7] (fun d i => d = .int .i64 z ∧ i = .int .i64 0) (fun _ _ => 0)
  case atStart => exact ⟨rfl, rfl⟩
  case round =>
    obtain ⟨rfl, rfl⟩ := hrel
    go_wp2
    go_ret
    exact ⟨rfl, rfl⟩
theorem itemsUntouched_nil (gk : Nat) (w : World) (hc : w.cell? ⟨gk, 20, none⟩ = some (.slice none 0 0)) :
    Calls Tryz.prog 88 #[.pointer (some ⟨gk, 0, none⟩)] w fun e w' => e = .returned (.bool true) ∧ w = w' := by
  go_enter Tryz.func88, Tryz.ntmps88
  go_wp2
  go_loop [3] (fun i => i = .int .i64 0) (fun _ => 0)
  case atStart => exact rfl
  case round =>
    obtain rfl := hrel
    go_wp2
    go_ret
    exact ⟨rfl, rfl⟩
theorem itemsWrite_nil (gk : Nat) (z : Int) (w : World) (hc : w.cell? ⟨gk, 20, none⟩ = some (.slice none 0 0)) :
    Calls Tryz.prog 101 #[.pointer (some ⟨gk, 0, none⟩), .int .i64 z] w fun e w' => e = .returned (.int .i64 z) ∧ w = w' := by
  go_enter Tryz.func101, Tryz.ntmps101
  go_wp2
  go_loop [1, 5] (fun d i => d = .int .i64 z ∧ i = .int .i64 0) (fun _ _ => 0)
  case atStart => exact ⟨rfl, rfl⟩
  case round =>
    obtain ⟨rfl, rfl⟩ := hrel
    go_wp2
    go_ret
    exact ⟨rfl, rfl⟩
theorem itemsHold_nil (gk : Nat) (z : Int) (w : World) (hc : w.cell? ⟨gk, 20, none⟩ = some (.slice none 0 0)) :
    Calls Tryz.prog 114 #[.pointer (some ⟨gk, 0, none⟩), .int .i64 z] w fun e w' => e = .returned (.tuple #[.int .i64 z, .bool true]) ∧ w = w' := by
  go_enter Tryz.func114, Tryz.ntmps114
  go_wp2
  go_loop [1, 6, 7] (fun d a i => d = .int .i64 z ∧ a = .bool true ∧ i = .int .i64 0) (fun _ _ _ => 0)
  case atStart => exact ⟨rfl, rfl, rfl⟩
  case round =>
    obtain ⟨rfl, rfl, rfl⟩ := hrel
    go_wp2
    go_ret2
    exact ⟨rfl, rfl⟩
theorem itemsGrow_nil (gk : Nat) (z t : Int) (w : World) (hc : w.cell? ⟨gk, 20, none⟩ = some (.slice none 0 0)) :
    Calls Tryz.prog 127 #[.pointer (some ⟨gk, 0, none⟩), .int .i64 z, .int .i64 t] w fun e w' => e = .returned (.int .i64 z) ∧ w = w' := by
  go_enter Tryz.func127, Tryz.ntmps127
  go_wp2
  go_loop [1, 7] (fun d i => d = .int .i64 z ∧ i = .int .i64 0) (fun _ _ => 0)
  case atStart => exact ⟨rfl, rfl⟩
  case round =>
    obtain ⟨rfl, rfl⟩ := hrel
    go_wp2
    go_ret
    exact ⟨rfl, rfl⟩
theorem kidsUntouched_nil (gk : Nat) (w : World) (hc : w.cell? ⟨gk, 23, none⟩ = some (.slice none 0 0)) :
    Calls Tryz.prog 89 #[.pointer (some ⟨gk, 0, none⟩)] w fun e w' => e = .returned (.bool true) ∧ w = w' := by
  go_enter Tryz.func89, Tryz.ntmps89
  go_wp2
  go_loop [3] (fun i => i = .int .i64 0) (fun _ => 0)
  case atStart => exact rfl
  case round =>
    obtain rfl := hrel
    go_wp2
    go_ret
    exact ⟨rfl, rfl⟩
theorem kidsWrite_nil (gk : Nat) (z : Int) (w : World) (hc : w.cell? ⟨gk, 23, none⟩ = some (.slice none 0 0)) :
    Calls Tryz.prog 102 #[.pointer (some ⟨gk, 0, none⟩), .int .i64 z] w fun e w' => e = .returned (.int .i64 z) ∧ w = w' := by
  go_enter Tryz.func102, Tryz.ntmps102
  go_wp2
  go_loop [1, 5] (fun d i => d = .int .i64 z ∧ i = .int .i64 0) (fun _ _ => 0)
  case atStart => exact ⟨rfl, rfl⟩
  case round =>
    obtain ⟨rfl, rfl⟩ := hrel
    go_wp2
    go_ret
    exact ⟨rfl, rfl⟩
theorem kidsHold_nil (gk : Nat) (z : Int) (w : World) (hc : w.cell? ⟨gk, 23, none⟩ = some (.slice none 0 0)) :
    Calls Tryz.prog 115 #[.pointer (some ⟨gk, 0, none⟩), .int .i64 z] w fun e w' => e = .returned (.tuple #[.int .i64 z, .bool true]) ∧ w = w' := by
  go_enter Tryz.func115, Tryz.ntmps115
  go_wp2
  go_loop [1, 6, 7] (fun d a i => d = .int .i64 z ∧ a = .bool true ∧ i = .int .i64 0) (fun _ _ _ => 0)
  case atStart => exact ⟨rfl, rfl, rfl⟩
  case round =>
    obtain ⟨rfl, rfl, rfl⟩ := hrel
    go_wp2
    go_ret2
    exact ⟨rfl, rfl⟩
theorem kidsGrow_nil (gk : Nat) (z t : Int) (w : World) (hc : w.cell? ⟨gk, 23, none⟩ = some (.slice none 0 0)) :
    Calls Tryz.prog 128 #[.pointer (some ⟨gk, 0, none⟩), .int .i64 z, .int .i64 t] w fun e w' => e = .returned (.int .i64 z) ∧ w = w' := by
  go_enter Tryz.func128, Tryz.ntmps128
  go_wp2
  go_loop [1, 7] (fun d i => d = .int .i64 z ∧ i = .int .i64 0) (fun _ _ => 0)
  case atStart => exact ⟨rfl, rfl⟩
  case round =>
    obtain ⟨rfl, rfl⟩ := hrel
    go_wp2
    go_ret
    exact ⟨rfl, rfl⟩
theorem nodesUntouched_nil (gk : Nat) (w : World) (hc : w.cell? ⟨gk, 26, none⟩ = some (.slice none 0 0)) :
    Calls Tryz.prog 90 #[.pointer (some ⟨gk, 0, none⟩)] w fun e w' => e = .returned (.bool true) ∧ w = w' := by
  go_enter Tryz.func90, Tryz.ntmps90
  go_wp2
  go_loop [3] (fun i => i = .int .i64 0) (fun _ => 0)
  case atStart => exact rfl
  case round =>
    obtain rfl := hrel
    go_wp2
    go_ret
    exact ⟨rfl, rfl⟩
theorem nodesWrite_nil (gk : Nat) (z : Int) (w : World) (hc : w.cell? ⟨gk, 26, none⟩ = some (.slice none 0 0)) :
    Calls Tryz.prog 103 #[.pointer (some ⟨gk, 0, none⟩), .int .i64 z] w fun e w' => e = .returned (.int .i64 z) ∧ w = w' := by
  go_enter Tryz.func103, Tryz.ntmps103
  go_wp2
  go_loop [1, 5] (fun d i => d = .int .i64 z ∧ i = .int .i64 0) (fun _ _ => 0)
  case atStart => exact ⟨rfl, rfl⟩
  case round =>
    obtain ⟨rfl, rfl⟩ := hrel
    go_wp2
    go_ret
    exact ⟨rfl, rfl⟩
theorem nodesHold_nil (gk : Nat) (z : Int) (w : World) (hc : w.cell? ⟨gk, 26, none⟩ = some (.slice none 0 0)) :
    Calls Tryz.prog 116 #[.pointer (some ⟨gk, 0, none⟩), .int .i64 z] w fun e w' => e = .returned (.tuple #[.int .i64 z, .bool true]) ∧ w = w' := by
  go_enter Tryz.func116, Tryz.ntmps116
  go_wp2
  go_loop [1, 6, 7] (fun d a i => d = .int .i64 z ∧ a = .bool true ∧ i = .int .i64 0) (fun _ _ _ => 0)
  case atStart => exact ⟨rfl, rfl, rfl⟩
  case round =>
    obtain ⟨rfl, rfl, rfl⟩ := hrel
    go_wp2
    go_ret2
    exact ⟨rfl, rfl⟩
theorem nodesGrow_nil (gk : Nat) (z t : Int) (w : World) (hc : w.cell? ⟨gk, 26, none⟩ = some (.slice none 0 0)) :
    Calls Tryz.prog 129 #[.pointer (some ⟨gk, 0, none⟩), .int .i64 z, .int .i64 t] w fun e w' => e = .returned (.int .i64 z) ∧ w = w' := by
  go_enter Tryz.func129, Tryz.ntmps129
  go_wp2
  go_loop [1, 7] (fun d i => d = .int .i64 z ∧ i = .int .i64 0) (fun _ _ => 0)
  case atStart => exact ⟨rfl, rfl⟩
  case round =>
    obtain ⟨rfl, rfl⟩ := hrel
    go_wp2
    go_ret
    exact ⟨rfl, rfl⟩
theorem writesUntouched_nil (gk : Nat) (w : World) (hc : w.cell? ⟨gk, 29, none⟩ = some (.slice none 0 0)) :
    Calls Tryz.prog 91 #[.pointer (some ⟨gk, 0, none⟩)] w fun e w' => e = .returned (.bool true) ∧ w = w' := by
  go_enter Tryz.func91, Tryz.ntmps91
  go_wp2
  go_loop [3] (fun i => i = .int .i64 0) (fun _ => 0)
  case atStart => exact rfl
  case round =>
    obtain rfl := hrel
    go_wp2
    go_ret
    exact ⟨rfl, rfl⟩
theorem writesWrite_nil (gk : Nat) (z : Int) (w : World) (hc : w.cell? ⟨gk, 29, none⟩ = some (.slice none 0 0)) :
    Calls Tryz.prog 104 #[.pointer (some ⟨gk, 0, none⟩), .int .i64 z] w fun e w' => e = .returned (.int .i64 z) ∧ w = w' := by
  go_enter Tryz.func104, Tryz.ntmps104
  go_wp2
  go_loop [1, 5] (fun d i => d = .int .i64 z ∧ i = .int .i64 0) (fun _ _ => 0)
  case atStart => exact ⟨rfl, rfl⟩
  case round =>
    obtain ⟨rfl, rfl⟩ := hrel
    go_wp2
    go_ret
    exact ⟨rfl, rfl⟩
theorem writesHold_nil (gk : Nat) (z : Int) (w : World) (hc : w.cell? ⟨gk, 29, none⟩ = some (.slice none 0 0)) :
    Calls Tryz.prog 117 #[.pointer (some ⟨gk, 0, none⟩), .int .i64 z] w fun e w' => e = .returned (.tuple #[.int .i64 z, .bool true]) ∧ w = w' := by
  go_enter Tryz.func117, Tryz.ntmps117
  go_wp2
  go_loop [1, 6, 7] (fun d a i => d = .int .i64 z ∧ a = .bool true ∧ i = .int .i64 0) (fun _ _ _ => 0)
  case atStart => exact ⟨rfl, rfl, rfl⟩
  case round =>
    obtain ⟨rfl, rfl, rfl⟩ := hrel
    go_wp2
    go_ret2
    exact ⟨rfl, rfl⟩
theorem writesGrow_nil (gk : Nat) (z t : Int) (w : World) (hc : w.cell? ⟨gk, 29, none⟩ = some (.slice none 0 0)) :
    Calls Tryz.prog 130 #[.pointer (some ⟨gk, 0, none⟩), .int .i64 z, .int .i64 t] w fun e w' => e = .returned (.int .i64 z) ∧ w = w' := by
  go_enter Tryz.func130, Tryz.ntmps130
  go_wp2
  go_loop [1, 7] (fun d i => d = .int .i64 z ∧ i = .int .i64 0) (fun _ _ => 0)
  case atStart => exact ⟨rfl, rfl⟩
  case round =>
    obtain ⟨rfl, rfl⟩ := hrel
    go_wp2
    go_ret
    exact ⟨rfl, rfl⟩
theorem changesUntouched_nil (gk : Nat) (w : World) (hc : w.cell? ⟨gk, 32, none⟩ = some (.slice none 0 0)) :
    Calls Tryz.prog 92 #[.pointer (some ⟨gk, 0, none⟩)] w fun e w' => e = .returned (.bool true) ∧ w = w' := by
  go_enter Tryz.func92, Tryz.ntmps92
  go_wp2
  go_loop [3] (fun i => i = .int .i64 0) (fun _ => 0)
  case atStart => exact rfl
  case round =>
    obtain rfl := hrel
    go_wp2
    go_ret
    exact ⟨rfl, rfl⟩
theorem changesWrite_nil (gk : Nat) (z : Int) (w : World) (hc : w.cell? ⟨gk, 32, none⟩ = some (.slice none 0 0)) :
    Calls Tryz.prog 105 #[.pointer (some ⟨gk, 0, none⟩), .int .i64 z] w fun e w' => e = .returned (.int .i64 z) ∧ w = w' := by
  go_enter Tryz.func105, Tryz.ntmps105
  go_wp2
  go_loop [1, 5] (fun d i => d = .int .i64 z ∧ i = .int .i64 0) (fun _ _ => 0)
  case atStart => exact ⟨rfl, rfl⟩
  case round =>
    obtain ⟨rfl, rfl⟩ := hrel
    go_wp2
    go_ret
    exact ⟨rfl, rfl⟩
theorem changesHold_nil (gk : Nat) (z : Int) (w : World) (hc : w.cell? ⟨gk, 32, none⟩ = some (.slice none 0 0)) :
    Calls Tryz.prog 118 #[.pointer (some ⟨gk, 0, none⟩), .int .i64 z] w fun e w' => e = .returned (.tuple #[.int .i64 z, .bool true]) ∧ w = w' := by
  go_enter Tryz.func118, Tryz.ntmps118
  go_wp2
  go_loop [1, 6, 7] (fun d a i => d = .int .i64 z ∧ a = .bool true ∧ i = .int .i64 0) (fun _ _ _ => 0)
  case atStart => exact ⟨rfl, rfl, rfl⟩
  case round =>
    obtain ⟨rfl, rfl, rfl⟩ := hrel
    go_wp2
    go_ret2
    exact ⟨rfl, rfl⟩
theorem changesGrow_nil (gk : Nat) (z t : Int) (w : World) (hc : w.cell? ⟨gk, 32, none⟩ = some (.slice none 0 0)) :
    Calls Tryz.prog 131 #[.pointer (some ⟨gk, 0, none⟩), .int .i64 z, .int .i64 t] w fun e w' => e = .returned (.int .i64 z) ∧ w = w' := by
  go_enter Tryz.func131, Tryz.ntmps131
  go_wp2
  go_loop [1, 7] (fun d i => d = .int .i64 z ∧ i = .int .i64 0) (fun _ _ => 0)
  case atStart => exact ⟨rfl, rfl⟩
  case round =>
    obtain ⟨rfl, rfl⟩ := hrel
    go_wp2
    go_ret
    exact ⟨rfl, rfl⟩
theorem fatesUntouched_nil (gk : Nat) (w : World) (hc : w.cell? ⟨gk, 35, none⟩ = some (.slice none 0 0)) :
    Calls Tryz.prog 93 #[.pointer (some ⟨gk, 0, none⟩)] w fun e w' => e = .returned (.bool true) ∧ w = w' := by
  go_enter Tryz.func93, Tryz.ntmps93
  go_wp2
  go_loop [3] (fun i => i = .int .i64 0) (fun _ => 0)
  case atStart => exact rfl
  case round =>
    obtain rfl := hrel
    go_wp2
    go_ret
    exact ⟨rfl, rfl⟩
theorem fatesWrite_nil (gk : Nat) (z : Int) (w : World) (hc : w.cell? ⟨gk, 35, none⟩ = some (.slice none 0 0)) :
    Calls Tryz.prog 106 #[.pointer (some ⟨gk, 0, none⟩), .int .i64 z] w fun e w' => e = .returned (.int .i64 z) ∧ w = w' := by
  go_enter Tryz.func106, Tryz.ntmps106
  go_wp2
  go_loop [1, 5] (fun d i => d = .int .i64 z ∧ i = .int .i64 0) (fun _ _ => 0)
  case atStart => exact ⟨rfl, rfl⟩
  case round =>
    obtain ⟨rfl, rfl⟩ := hrel
    go_wp2
    go_ret
    exact ⟨rfl, rfl⟩
theorem fatesHold_nil (gk : Nat) (z : Int) (w : World) (hc : w.cell? ⟨gk, 35, none⟩ = some (.slice none 0 0)) :
    Calls Tryz.prog 119 #[.pointer (some ⟨gk, 0, none⟩), .int .i64 z] w fun e w' => e = .returned (.tuple #[.int .i64 z, .bool true]) ∧ w = w' := by
  go_enter Tryz.func119, Tryz.ntmps119
  go_wp2
  go_loop [1, 6, 7] (fun d a i => d = .int .i64 z ∧ a = .bool true ∧ i = .int .i64 0) (fun _ _ _ => 0)
  case atStart => exact ⟨rfl, rfl, rfl⟩
  case round =>
    obtain ⟨rfl, rfl, rfl⟩ := hrel
    go_wp2
    go_ret2
    exact ⟨rfl, rfl⟩
theorem fatesGrow_nil (gk : Nat) (z t : Int) (w : World) (hc : w.cell? ⟨gk, 35, none⟩ = some (.slice none 0 0)) :
    Calls Tryz.prog 132 #[.pointer (some ⟨gk, 0, none⟩), .int .i64 z, .int .i64 t] w fun e w' => e = .returned (.int .i64 z) ∧ w = w' := by
  go_enter Tryz.func132, Tryz.ntmps132
  go_wp2
  go_loop [1, 7] (fun d i => d = .int .i64 z ∧ i = .int .i64 0) (fun _ _ => 0)
  case atStart => exact ⟨rfl, rfl⟩
  case round =>
    obtain ⟨rfl, rfl⟩ := hrel
    go_wp2
    go_ret
    exact ⟨rfl, rfl⟩
theorem opsUntouched_nil (gk : Nat) (w : World) (hc : w.cell? ⟨gk, 38, none⟩ = some (.slice none 0 0)) :
    Calls Tryz.prog 94 #[.pointer (some ⟨gk, 0, none⟩)] w fun e w' => e = .returned (.bool true) ∧ w = w' := by
  go_enter Tryz.func94, Tryz.ntmps94
  go_wp2
  go_loop [3] (fun i => i = .int .i64 0) (fun _ => 0)
  case atStart => exact rfl
  case round =>
    obtain rfl := hrel
    go_wp2
    go_ret
    exact ⟨rfl, rfl⟩
theorem opsWrite_nil (gk : Nat) (z : Int) (w : World) (hc : w.cell? ⟨gk, 38, none⟩ = some (.slice none 0 0)) :
    Calls Tryz.prog 107 #[.pointer (some ⟨gk, 0, none⟩), .int .i64 z] w fun e w' => e = .returned (.int .i64 z) ∧ w = w' := by
  go_enter Tryz.func107, Tryz.ntmps107
  go_wp2
  go_loop [1, 5] (fun d i => d = .int .i64 z ∧ i = .int .i64 0) (fun _ _ => 0)
  case atStart => exact ⟨rfl, rfl⟩
  case round =>
    obtain ⟨rfl, rfl⟩ := hrel
    go_wp2
    go_ret
    exact ⟨rfl, rfl⟩
theorem opsHold_nil (gk : Nat) (z : Int) (w : World) (hc : w.cell? ⟨gk, 38, none⟩ = some (.slice none 0 0)) :
    Calls Tryz.prog 120 #[.pointer (some ⟨gk, 0, none⟩), .int .i64 z] w fun e w' => e = .returned (.tuple #[.int .i64 z, .bool true]) ∧ w = w' := by
  go_enter Tryz.func120, Tryz.ntmps120
  go_wp2
  go_loop [1, 6, 7] (fun d a i => d = .int .i64 z ∧ a = .bool true ∧ i = .int .i64 0) (fun _ _ _ => 0)
  case atStart => exact ⟨rfl, rfl, rfl⟩
  case round =>
    obtain ⟨rfl, rfl, rfl⟩ := hrel
    go_wp2
    go_ret2
    exact ⟨rfl, rfl⟩
theorem opsGrow_nil (gk : Nat) (z t : Int) (w : World) (hc : w.cell? ⟨gk, 38, none⟩ = some (.slice none 0 0)) :
    Calls Tryz.prog 133 #[.pointer (some ⟨gk, 0, none⟩), .int .i64 z, .int .i64 t] w fun e w' => e = .returned (.int .i64 z) ∧ w = w' := by
  go_enter Tryz.func133, Tryz.ntmps133
  go_wp2
  go_loop [1, 7] (fun d i => d = .int .i64 z ∧ i = .int .i64 0) (fun _ _ => 0)
  case atStart => exact ⟨rfl, rfl⟩
  case round =>
    obtain ⟨rfl, rfl⟩ := hrel
    go_wp2
    go_ret
    exact ⟨rfl, rfl⟩
end Go.Proofs.YtenalocpmigppaaGreatDoor
