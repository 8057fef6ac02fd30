/- Contracts of the reference's Require and Remove. -/
import Derived.Test.YtkjmmpdmbdimoaaDoorA3
namespace Go.Proofs.YtkjmmpdmbdimoaaDoor
open Go.RowKit

/-- The reference's test of one bit. -/
def denied (u want has b : Int) : Bool := (u != 0) && ((want / b % 2 == 1) && (has / b % 2 == 0))
theorem denied_of (u want has b : Int) (x y z : Bool) (h0 : (u != 0) = x) (h1 : (want / b % 2 == 1) = y) (h2 : (has / b % 2 == 0) = z) : denied u want has b = (x && (y && z)) := by rw [denied, h0, h1, h2]
theorem denied_of1 (u want has : Int) (x y z : Bool) (h0 : (u != 0) = x) (h1 : (want % 2 == 1) = y) (h2 : (has % 2 == 0) = z) : denied u want has 1 = (x && (y && z)) := by rw [denied, Int.ediv_one, Int.ediv_one, h0, h1, h2]
def rrequireI (u want has : Int) : Int := if (denied u want has 1 = true ∨ denied u want has 2 = true) ∨ denied u want has 4 = true then 14 else 0

set_option maxHeartbeats 400000 in
theorem rrequire_ok (u : Int) (a : Option Addr) (n c : Nat) (gs : List Int) (owner group m want : Int) (w : World) (hx : Ints w a n gs) (hv : validB m = true) (hw0 : 0 ≤ want) (hw1 : want ≤ 7)
    (hb0 : 0 ≤ bitsI m (classI u gs owner group)) (hb1 : bitsI m (classI u gs owner group) ≤ 7) :
    Calls Tryd.prog 32 #[.agg #[.int .i64 u, .slice a n c], .int .i64 owner, .int .i64 group, .int .i64 m, .int .i64 want] w fun e w' => e = .returned (.int .i64 (rrequireI u want (bitsI m (classI u gs owner group)))) ∧ Below w.heap.size w w' := by
  generalize hhas : bitsI m (classI u gs owner group) = has at *
  have Hhas := Lib.hid hhas
  clear hhas
  have hvH := Lib.hid hv
  go_enter Tryd.func32, Tryd.ntmps32
  go_wp2_with (first | (go_at_call 31; refine (rvalid_calls _ _).mono ?_; rintro e w' ⟨rfl, rfl⟩) | (go_at_call 35; refine (rclass_calls _ _ _ _ gs _ _ _ (hx.later (bel1 _ _))).mono ?_; rintro e w1 ⟨rfl, hbb⟩; have hcell : w1.cell? ⟨w.heap.size, 0, none⟩ = some (.int .i64 u) := (hbb.cell (p := ⟨w.heap.size, 0, none⟩) (by simp)).trans (by simp)) | (go_at_call 15; refine (rbits_calls _ _ _).mono ?_; rintro e w2 ⟨rfl, rfl⟩; rw [Hhas.out]))
  go_loop [12] (fun b => ∃ y : Int, b = .int .i64 y ∧ ((y = 1) ∨ (y = 2 ∧ Hid (denied u want has 1 = false)) ∨ (y = 4 ∧ Hid (denied u want has 1 = false) ∧ Hid (denied u want has 2 = false)) ∨ (y = 8 ∧ Hid (denied u want has 1 = false) ∧ Hid (denied u want has 2 = false) ∧ Hid (denied u want has 4 = false)))) (fun b => 8 - (intOf b).toNat)
  case atStart => exact ⟨1, rfl, .inl rfl⟩
  case round =>
    obtain ⟨y, rfl, hy⟩ := hrel
    rcases hy with rfl | ⟨rfl, d1⟩ | ⟨rfl, d1, d2⟩ | ⟨rfl, d1, d2, d4⟩
    · cases h0 : (u != 0) <;> cases h1 : (want % 2 == 1) <;> cases h2 : (has % 2 == 0)
      all_goals
        have D := Lib.hid (denied_of1 u want has _ _ _ h0 h1 h2)
        simp only [Bool.and_true, Bool.and_false, Bool.true_and, Bool.false_and] at D
        first
          | (have D' : Hid (denied u want has 1 = true) := D
             clear D
             have D := D'
             go_wp2
             go_ret
             exact ⟨ret_int (by rw [rrequireI, if_pos (.inl (.inl D.out))]), bel_then (bel1 _ _) (by simp) hbb⟩)
          | (have D' : Hid (denied u want has 1 = false) := D
             clear D
             have D := D'
             go_wp2
             go_round
             case rel => exact ⟨2, rfl, .inr (.inl ⟨rfl, D.out⟩)⟩
             case measure => simp [intOf])
    · cases h0 : (u != 0) <;> cases h1 : (want / 2 % 2 == 1) <;> cases h2 : (has / 2 % 2 == 0)
      all_goals
        have D := Lib.hid (denied_of u want has 2 _ _ _ h0 h1 h2)
        simp only [Bool.and_true, Bool.and_false, Bool.true_and, Bool.false_and] at D
        first
          | (have D' : Hid (denied u want has 2 = true) := D
             clear D
             have D := D'
             go_wp2
             go_ret
             exact ⟨ret_int (by rw [rrequireI, if_pos (.inl (.inr D.out))]), bel_then (bel1 _ _) (by simp) hbb⟩)
          | (have D' : Hid (denied u want has 2 = false) := D
             clear D
             have D := D'
             go_wp2
             go_round
             case rel => exact ⟨4, rfl, .inr (.inr (.inl ⟨rfl, d1, D.out⟩))⟩
             case measure => simp [intOf])
    · cases h0 : (u != 0) <;> cases h1 : (want / 4 % 2 == 1) <;> cases h2 : (has / 4 % 2 == 0)
      all_goals
        have D := Lib.hid (denied_of u want has 4 _ _ _ h0 h1 h2)
        simp only [Bool.and_true, Bool.and_false, Bool.true_and, Bool.false_and] at D
        first
          | (have D' : Hid (denied u want has 4 = true) := D
             clear D
             have D := D'
             go_wp2
             go_ret
             exact ⟨ret_int (by rw [rrequireI, if_pos (.inr D.out)]), bel_then (bel1 _ _) (by simp) hbb⟩)
          | (have D' : Hid (denied u want has 4 = false) := D
             clear D
             have D := D'
             go_wp2
             go_round
             case rel => exact ⟨8, rfl, .inr (.inr (.inr ⟨rfl, d1, d2, D.out⟩))⟩
             case measure => simp [intOf])
    · go_wp2
      go_ret
      exact ⟨ret_int (by have e1 := d1.out; have e2 := d2.out; have e4 := d4.out; simp [rrequireI, e1, e2, e4]), bel_then (bel1 _ _) (by simp) hbb⟩

set_option maxHeartbeats 400000 in
theorem rrequire_no (u : Int) (s : Value) (owner group m want : Int) (w : World) (h : validB m = false ∨ want < 0 ∨ 7 < want) :
    Calls Tryd.prog 32 #[.agg #[.int .i64 u, s], .int .i64 owner, .int .i64 group, .int .i64 m, .int .i64 want] w fun e w' => e = .returned (.int .i64 2) ∧ Below w.heap.size w w' := by
  cases hv : validB m with
  | false =>
    have hvH := Lib.hid hv
    clear h
    go_enter Tryd.func32, Tryd.ntmps32
    go_wp2_with (go_at_call 31; refine (rvalid_calls _ _).mono ?_; rintro e w' ⟨rfl, rfl⟩)
    go_ret
    exact ⟨rfl, bel1 _ _⟩
  | true =>
    have hvH := Lib.hid hv
    by_cases hw : want < 0
    · clear h
      go_enter Tryd.func32, Tryd.ntmps32
      go_wp2_with (go_at_call 31; refine (rvalid_calls _ _).mono ?_; rintro e w' ⟨rfl, rfl⟩)
      go_ret
      exact ⟨rfl, bel1 _ _⟩
    · have hw1 : 7 < want := by
        rcases h with h | h | h
        · rw [hv] at h; cases h
        · omega
        · exact h
      clear h
      go_enter Tryd.func32, Tryd.ntmps32
      go_wp2_with (go_at_call 31; refine (rvalid_calls _ _).mono ?_; rintro e w' ⟨rfl, rfl⟩)
      go_ret
      exact ⟨rfl, bel1 _ _⟩

end Go.Proofs.YtkjmmpdmbdimoaaDoor
