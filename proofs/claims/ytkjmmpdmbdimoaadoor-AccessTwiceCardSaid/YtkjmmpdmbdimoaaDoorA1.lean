/- Contracts of small functions of package access. -/
import Derived.Test.YtkjmmpdmbdimoaaDoorProg
import Derived.WalkKit
import Derived.WalkSpells
import Derived.WalkLawsBesides
import Derived.Lib.Hide
namespace Go.Proofs.YtkjmmpdmbdimoaaDoor
open Go.RowKit

def validB (m : Int) : Bool := decide (0 ≤ m) && decide (m ≤ 2047)

set_option maxHeartbeats 400000 in
theorem valid_calls (m : Int) (w : World) :
    Calls Tryd.prog 23 #[.int .i64 m] w fun e w' => e = .returned (.bool (validB m)) ∧ w = w' := by
  by_cases h0 : 0 ≤ m
  · by_cases h1 : m ≤ 2047
    · go_enter Tryd.func23, Tryd.ntmps23
      go_wp2
      go_ret
      exact ⟨by simp [validB, h0, h1], rfl⟩
    · go_enter Tryd.func23, Tryd.ntmps23
      go_wp2
      go_ret
      exact ⟨by simp [validB, h1], rfl⟩
  · go_enter Tryd.func23, Tryd.ntmps23
    go_wp2
    go_ret
    exact ⟨by simp [validB]; intro h; omega, rfl⟩

/-- The slice reads as these numbers. -/
def Ints (w : World) (a : Option Addr) (n : Nat) (xs : List Int) : Prop :=
  xs.length = n ∧ n ≤ 9223372036854775807 ∧ ∀ j, j < n → ∃ b o, a = some ⟨b, o, none⟩ ∧ w.cell? ⟨b, o + j, none⟩ = some (.int .i64 (xs[j]?.getD 0))

theorem ret_int {k : IntKind} {a b : Int} (h : a = b) : Ending.returned (.int k a) = .returned (.int k b) := by rw [h]
theorem ret_bool {a b : Bool} (h : a = b) : Ending.returned (.bool a) = .returned (.bool b) := by rw [h]

/-- The result is some number with this property, the world is as it was. -/
def SomeInt (P : Int → Prop) (w : World) (e : Ending) (w' : World) : Prop := ∃ n : Int, P n ∧ e = .returned (.int .i64 n) ∧ w = w'

def isIn (v : Int) (xs : List Int) : Bool := xs.contains v
theorem isIn_at {xs : List Int} {v : Int} {k : Nat} (hk : k < xs.length) (hv : (v == xs[k]?.getD 0) = true) : isIn v xs = true := by
  have hv : v = xs[k]?.getD 0 := by simpa using hv
  rw [List.getElem?_eq_getElem hk] at hv
  simp only [Option.getD_some] at hv
  have hm : v ∈ xs := by rw [hv]; exact List.getElem_mem hk
  simp [isIn, hm]
theorem isIn_no {xs : List Int} {v : Int} (hno : ∀ j, j < xs.length → xs[j]?.getD 0 ≠ v) : isIn v xs = false := by
  have hm : v ∉ xs := by
    intro h
    obtain ⟨k, hk, e⟩ := List.getElem_of_mem h
    exact hno k hk (by rw [List.getElem?_eq_getElem hk]; exact e)
  simp [isIn, hm]

set_option maxHeartbeats 400000 in
theorem index_calls (a : Option Addr) (n c : Nat) (xs : List Int) (v : Int) (w : World) (hx : Ints w a n xs) :
    Calls Tryd.prog 36 #[.slice a n c, .int .i64 v] w (SomeInt (fun i => decide (0 ≤ i) = isIn v xs) w) := by
  obtain ⟨hl, hm, hc⟩ := hx
  have hc' := Lib.hid hc
  have hl' := Lib.hid hl
  clear hc hl
  go_enter Tryd.func36, Tryd.ntmps36
  go_wp2
  go_loop [5, 8] (fun _ i => ∃ k : Nat, k ≤ n ∧ i = .int .i64 k ∧ Hid (∀ j, j < k → xs[j]?.getD 0 ≠ v)) (fun _ i => n - (intOf i).toNat)
  case atStart => exact ⟨0, Nat.zero_le _, rfl, fun j hj => absurd hj (by omega)⟩
  case round =>
    obtain ⟨k, hk, rfl, hno⟩ := hrel
    by_cases hlt : k < n
    · obtain ⟨b, o, ha, hcell⟩ := hc'.out k hlt
      subst ha
      cases hv : (v == xs[k]?.getD 0) with
      | true =>
        have hvH := Lib.hid hv
        go_wp2
        go_ret
        exact ⟨_, by rw [isIn_at (by rw [hl'.out]; exact hlt) hvH.out]; simp, rfl, rfl⟩
      | false =>
        have hvH := Lib.hid hv
        go_wp2
        go_round
        case rel => exact ⟨k + 1, by omega, by go_num, fun j hj => by
          by_cases e : j = k
          · subst e; exact fun h => by have := hvH.out; simp [h] at this
          · exact hno.out j (by omega)⟩
        case measure => simp [intOf]; omega
    · have hkn : Hid (k = n) := by show k = n; omega
      go_wp2
      go_ret
      exact ⟨_, by rw [isIn_no (fun j hj => hno.out j (by have := hl'.out; have := hkn.out; omega))]; simp, rfl, rfl⟩

set_option maxHeartbeats 400000 in
theorem contains_calls (a : Option Addr) (n c : Nat) (xs : List Int) (v : Int) (w : World) (hx : Ints w a n xs) :
    Calls Tryd.prog 34 #[.slice a n c, .int .i64 v] w fun e w' => e = .returned (.bool (isIn v xs)) ∧ w = w' := by
  go_enter Tryd.func34, Tryd.ntmps34
  go_wp2_with (go_at_call 36; refine (index_calls _ _ _ xs v _ hx).mono ?_; rintro e w' ⟨i, hi, rfl, rfl⟩; have hiH := Lib.hid hi; clear hi)
  go_ret
  exact ⟨ret_bool hiH.out, rfl⟩

end Go.Proofs.YtkjmmpdmbdimoaaDoor
