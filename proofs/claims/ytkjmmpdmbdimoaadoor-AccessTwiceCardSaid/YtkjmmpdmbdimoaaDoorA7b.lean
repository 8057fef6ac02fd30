/- The contracts of the three functions that Apply makes. -/
import Derived.Test.YtkjmmpdmbdimoaaDoorA7
namespace Go.Proofs.YtkjmmpdmbdimoaaDoor
open Go.RowKit Go.Own

set_option maxHeartbeats 400000 in
theorem plus_calls (x own : M) (a b : Nat) (w : World) (ha : w.cell? ⟨a, 0, none⟩ = some (.int .i64 (val x))) (hb : w.cell? ⟨b, 0, none⟩ = some (.int .i64 (val own))) (hf : w.frozen? ⟨a, 0, none⟩ = false) :
    Calls Tryd.prog 28 #[.pointer (some ⟨a, 0, none⟩), .pointer (some ⟨b, 0, none⟩)] w fun e w' => e = .returned (.tuple #[]) ∧ w.setCell ⟨a, 0, none⟩ (.int .i64 (val (x ||| own))) = w' := by
  have H := Lib.hid (val_or x own)
  go_enter Tryd.func28, Tryd.ntmps28
  go_wp2
  go_end0
  exact ⟨rfl, by rw [H.out]⟩

set_option maxHeartbeats 400000 in
theorem minus_calls (x own : M) (a b : Nat) (w : World) (ha : w.cell? ⟨a, 0, none⟩ = some (.int .i64 (val x))) (hb : w.cell? ⟨b, 0, none⟩ = some (.int .i64 (val own))) (hf : w.frozen? ⟨a, 0, none⟩ = false) :
    Calls Tryd.prog 29 #[.pointer (some ⟨a, 0, none⟩), .pointer (some ⟨b, 0, none⟩)] w fun e w' => e = .returned (.tuple #[]) ∧ w.setCell ⟨a, 0, none⟩ (.int .i64 (val (x &&& ~~~own))) = w' := by
  have H := Lib.hid (val_andNot x own)
  go_enter Tryd.func29, Tryd.ntmps29
  go_wp2
  go_end0
  exact ⟨rfl, by rw [H.out]⟩

set_option maxHeartbeats 400000 in
theorem set_calls (x own al : M) (a b c : Nat) (w : World) (ha : w.cell? ⟨a, 0, none⟩ = some (.int .i64 (val x))) (hb : w.cell? ⟨b, 0, none⟩ = some (.int .i64 (val al))) (hc : w.cell? ⟨c, 0, none⟩ = some (.int .i64 (val own))) (hf : w.frozen? ⟨a, 0, none⟩ = false) :
    Calls Tryd.prog 30 #[.pointer (some ⟨a, 0, none⟩), .pointer (some ⟨b, 0, none⟩), .pointer (some ⟨c, 0, none⟩)] w fun e w' => e = .returned (.tuple #[]) ∧ w.setCell ⟨a, 0, none⟩ (.int .i64 (val ((x &&& ~~~al) ||| own))) = w' := by
  have H := Lib.hid (val_andNot x al)
  have H2 := Lib.hid (val_or (x &&& ~~~al) own)
  go_enter Tryd.func30, Tryd.ntmps30
  go_wp2
  go_end0
  exact ⟨rfl, by rw [H.out, H2.out]⟩

end Go.Proofs.YtkjmmpdmbdimoaaDoor
