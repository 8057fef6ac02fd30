/- The contract of known: it answers true. -/
import Derived.Test.YtkjmmpdmbdimoaaDoorA8
import Derived.Test.YtkjmmpdmbdimoaaDoorA9
namespace Go.Proofs.YtkjmmpdmbdimoaaDoor
open Go.RowKit Go.Own

theorem text488 : textL 488 = [114, 119, 120, 114, 45, 120, 45, 45, 45] := by decide +kernel
theorem text_known (w : World) : Calls Tryd.prog 20 #[.int .i64 488] w fun e w' => e = .returned (.tuple #[.string ⟨#[114, 119, 120, 114, 45, 120, 45, 45, 45]⟩, .int .i64 0]) ∧ Below w.heap.size w w' := by
  have h := text_calls 488 w (by decide)
  rw [text488] at h
  exact h
theorem parse_known : parseC 8 [117, 43, 120, 44, 103, 111, 61] = some [mkCl [117] 43 [120], mkCl [103, 111] 61 []] := by decide +kernel
theorem all_known : val (applyAll (ofI 420) [mkCl [117] 43 [120], mkCl [103, 111] 61 []]) = 448 := by decide +kernel
theorem apply_known (w : World) (hs : Shifts w) : Calls Tryd.prog 13 #[.int .i64 420, .string ⟨#[117, 43, 120, 44, 103, 111, 61]⟩] w fun e w' => e = .returned (.tuple #[.int .i64 448, .int .i64 0, .int .i64 0]) ∧ Below w.heap.size w w' := by
  have h := apply_calls (ofI 420) ⟨#[117, 43, 120, 44, 103, 111, 61]⟩ w hs (by decide)
  rw [val_ofI (by decide) (by decide)] at h
  refine h.mono ?_
  rintro e w' ⟨hb, he⟩
  have hp : parseC ((⟨#[117, 43, 120, 44, 103, 111, 61]⟩ : ByteArray).data.toList.length + 1) (⟨#[117, 43, 120, 44, 103, 111, 61]⟩ : ByteArray).data.toList = some [mkCl [117] 43 [120], mkCl [103, 111] 61 []] := parse_known
  rw [hp] at he
  simp only [all_known] at he
  exact ⟨he, hb⟩
theorem require_known : requireI 8 [4] 7 3 488 4 = 14 := by decide +kernel
theorem ints_one (w : World) (x : Int) : Ints (w.alloc (.cells #[.int .i64 x] 3)) (some ⟨w.heap.size, 0, none⟩) 1 [x] :=
  ⟨rfl, by omega, fun j hj => ⟨w.heap.size, 0, rfl, by
    obtain rfl : j = 0 := by omega
    exact (Blk.new w [.int .i64 x] 3).cell 0 rfl⟩⟩
theorem req_known (w : World) (hs : Shifts w) : Calls Tryd.prog 11 #[.agg #[.int .i64 8, .slice (some ⟨w.heap.size, 0, none⟩) 1 1], .int .i64 7, .int .i64 3, .int .i64 488, .int .i64 4] (w.alloc (.cells #[.int .i64 4] 3)) fun e w' => e = .returned (.int .i64 14) ∧ Below w.heap.size w w' := by
  have h := require_calls 8 (some ⟨w.heap.size, 0, none⟩) 1 1 [4] 7 3 488 4 _ (ints_one w 4) (hs.later (bel1 _ _))
  rw [require_known] at h
  exact h.mono fun e w' ⟨he, hb⟩ => ⟨he, bel_then (bel1 _ _) (by simp) hb⟩

set_option maxHeartbeats 1000000 in
theorem known_calls (w : World) (hs : Shifts w) : Calls Tryd.prog 10 #[] w fun e w' => e = .returned (.bool true) ∧ Below w.heap.size w w' := by
  go_enter Tryd.func10, Tryd.ntmps10
  go_wp2_with (first | (go_at_call 20; refine (text_known _).mono ?_; rintro e w1 ⟨rfl, hb1⟩; have hs1 := hs.later hb1; have HB1 := Lib.hid hb1; clear hb1) | (go_at_call 13; refine (apply_known _ hs1).mono ?_; rintro e w2 ⟨rfl, hb2⟩; have hs2 := hs1.later hb2; have HB2 := Lib.hid hb2; clear hb2) | (go_at_call 11; refine (req_known _ hs2).mono ?_; rintro e w3 ⟨rfl, hb3⟩; have HB3 := Lib.hid hb3; clear hb3))
  go_ret
  exact ⟨rfl, bel_then (bel_then HB1.out HB1.out.size HB2.out) (Nat.le_trans HB1.out.size HB2.out.size) HB3.out⟩

end Go.Proofs.YtkjmmpdmbdimoaaDoor
