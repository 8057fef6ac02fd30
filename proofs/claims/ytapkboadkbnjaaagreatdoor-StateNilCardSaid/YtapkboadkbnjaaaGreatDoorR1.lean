/- A nil state: every method. -/
import Derived.Test.YtapkboadkbnjaaaGreatDoorQ5
namespace Go.Proofs.YtapkboadkbnjaaaGreatDoor
open Go.RowKit Go.Own
set_option maxRecDepth 100000

theorem get_nil (n : Nm) (w : World) : Calls Tryz.prog 15 #[.pointer none, nmV n] w fun e w' => e = .returned (.tuple #[.string ⟨#[]⟩, .bool false]) ∧ Below w.heap.size w w' := get_leaf none none rfl n w rfl
theorem withS_nil (n : Nm) (v : ByteArray) (w : World) : Calls Tryz.prog 32 #[.pointer none, nmV n, .string v] w fun e w' => e = .returned (.tuple #[.pointer none, .int .i64 1]) ∧ Below w.heap.size w w' := by
  go_enter Tryz.func32, Tryz.ntmps32
  go_wp2
  go_ret2
  exact ⟨rfl, bel1 _ _⟩
theorem withoutS_nil (n : Nm) (w : World) : Calls Tryz.prog 33 #[.pointer none, nmV n] w fun e w' => e = .returned (.tuple #[.pointer none, .int .i64 1]) ∧ Below w.heap.size w w' := by
  go_enter Tryz.func33, Tryz.ntmps33
  go_wp2
  go_ret2
  exact ⟨rfl, bel1 _ _⟩
theorem apply_nil (l : Value) (w : World) : Calls Tryz.prog 26 #[.pointer none, l] w fun e w' => e = .returned (.tuple #[.pointer none, .int .i64 1]) ∧ w = w' := by
  go_enter Tryz.func26, Tryz.ntmps26
  go_wp2
  go_ret2
  exact ⟨rfl, rfl⟩
theorem len_nil (w : World) : Calls Tryz.prog 34 #[.pointer none] w fun e w' => e = .returned (.int .i64 0) ∧ w = w' := len_calls none none 0 w rfl
theorem bytes_nil (w : World) : Calls Tryz.prog 35 #[.pointer none] w fun e w' => e = .returned (.int .i64 0) ∧ w = w' := bytes_calls none none 0 w rfl
theorem equal_nn (w : World) : Calls Tryz.prog 27 #[.pointer none, .pointer none] w fun e w' => e = .returned (.bool true) ∧ w = w' := by
  go_enter Tryz.func27, Tryz.ntmps27
  go_wp2
  go_ret
  exact ⟨rfl, rfl⟩
theorem equal_ns (k : Nat) (w : World) : Calls Tryz.prog 27 #[.pointer none, .pointer (some ⟨k, 0, none⟩)] w fun e w' => e = .returned (.bool false) ∧ w = w' := by
  have he : ∀ w : World, (binOp .eql 26 (.pointer none) (.pointer (some ⟨k, 0, none⟩))).run Tryz.prog w = .ok (.bool false) w := fun _ => rfl
  go_enter Tryz.func27, Tryz.ntmps27
  go_wp2
  go_ret
  exact ⟨rfl, rfl⟩
end Go.Proofs.YtapkboadkbnjaaaGreatDoor
