/- The walk of AccessTexts. -/
import Derived.Test.YtkjmmpdmbdimoaaDoorA12
import Derived.Test.YtkjmmpdmbdimoaaDoorA13
namespace Go.Proofs.YtkjmmpdmbdimoaaDoor
open Go.RowKit Go.Own

structure TS (w w' : World) : Prop where
  bel : Below w.heap.size w w'
  sh : Shifts w'
theorem TS.later {w w' w'' : World} (h : TS w w') (hb : Below w'.heap.size w' w'') : TS w w'' := ⟨bel_then h.bel h.bel.size hb, h.sh.later hb⟩
theorem TS.start {w : World} (h : Shifts w) : TS w w := ⟨Below.refl _ _, h⟩


set_option maxHeartbeats 2000000 in
theorem texts_yes (m : Int) (w : World) (hs : Shifts w) (hv : validB m = true) :
    Calls Tryd.prog 8 #[.int .i64 m] w fun e w' => e = .returned (.bool true) ∧ Below w.heap.size w w' := by
  obtain ⟨h0, h1⟩ := validB_iff.1 hv
  have HV := Lib.hid hv
  have HJ := Lib.hid (TS.start hs)
  obtain ⟨s, hs0⟩ : ∃ s : ByteArray, s = ⟨(textL m).toArray⟩ := ⟨_, rfl⟩
  have c1 := fun w => text_calls m w hv
  have c2 := fun w => parse_calls m w hv
  have c3 := fun w => rtext_calls m w hv
  rw [← hs0] at c1 c2 c3
  have C1 := Lib.hid c1
  have C2 := Lib.hid c2
  have C3 := Lib.hid c3
  clear hs0 c1 c2 c3 hv hs
  go_enter Tryd.func8, Tryd.ntmps8
  go_wp2_with (first
    | (go_at_call 20; (with_reducible refine (C1.out _).mono ?_); rintro e w4 ⟨rfl, hb⟩; have HJ := Lib.hid (HJ.out.later hb); clear hb)
    | (go_at_call 21; (with_reducible refine (C2.out _).mono ?_); rintro e w4 ⟨rfl, hb⟩; have HJ := Lib.hid (HJ.out.later hb); clear hb)
    | (go_at_call 22; (with_reducible refine (C3.out _).mono ?_); rintro e w4 ⟨rfl, hb⟩; have HJ := Lib.hid (HJ.out.later hb); clear hb)
    | (go_at_call 10; (with_reducible refine (known_calls _ HJ.out.sh).mono ?_); rintro e w4 ⟨rfl, hb⟩; have HJ := Lib.hid (HJ.out.later hb); clear hb))
  go_ret
  exact ⟨rfl, HJ.out.bel⟩

set_option maxHeartbeats 2000000 in
theorem texts_no (m : Int) (w : World) (hs : Shifts w) (hv : validB m = false) (h : m < 0 ∨ 2047 < m) :
    Calls Tryd.prog 8 #[.int .i64 m] w fun e w' => e = .returned (.bool true) ∧ Below w.heap.size w w' := by
  have HV := Lib.hid hv
  have HJ := Lib.hid (TS.start hs)
  clear hv hs
  rcases h with h | h
  all_goals
    go_enter Tryd.func8, Tryd.ntmps8
    go_wp2_with (first
      | (go_at_call 20; (with_reducible refine (text_no m _ HV.out).mono ?_); rintro e w4 ⟨rfl, hb⟩; have HJ := Lib.hid (HJ.out.later hb); clear hb)
      | (go_at_call 10; (with_reducible refine (known_calls _ HJ.out.sh).mono ?_); rintro e w4 ⟨rfl, hb⟩; have HJ := Lib.hid (HJ.out.later hb); clear hb))
    go_ret
    exact ⟨rfl, HJ.out.bel⟩

theorem texts_calls (m : Int) (w : World) (hs : Shifts w) :
    Calls Tryd.prog 8 #[.int .i64 m] w fun e w' => e = .returned (.bool true) ∧ Below w.heap.size w w' := by
  cases hv : validB m with
  | true => exact texts_yes m w hs hv
  | false =>
    refine texts_no m w hs hv ?_
    have : ¬ (0 ≤ m ∧ m ≤ 2047) := fun e => by rw [validB_iff.2 e] at hv; exact Bool.noConfusion hv
    omega

end Go.Proofs.YtkjmmpdmbdimoaaDoor
