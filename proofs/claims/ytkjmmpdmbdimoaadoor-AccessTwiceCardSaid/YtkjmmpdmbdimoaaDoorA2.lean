/- Contracts of Class, Bits and Require. -/
import Derived.Test.YtkjmmpdmbdimoaaDoorA1
namespace Go.Proofs.YtkjmmpdmbdimoaaDoor
open Go.RowKit

theorem Ints.later {w w1 : World} {a : Option Addr} {n : Nat} {xs : List Int} (h : Ints w a n xs) (hb : Below w.heap.size w w1) : Ints w1 a n xs :=
  ⟨h.1, h.2.1, fun j hj => by
    obtain ⟨b, o, e, hc⟩ := h.2.2 j hj
    exact ⟨b, o, e, (hb.cell (p := ⟨b, o + j, none⟩) (World.block_lt_of_cell? w _ hc)).trans hc⟩⟩

def classI (u : Int) (gs : List Int) (owner group : Int) : Int := if u = owner then 0 else if isIn group gs = true then 1 else 2

set_option maxHeartbeats 400000 in
theorem class_calls (u : Int) (a : Option Addr) (n c : Nat) (gs : List Int) (owner group : Int) (w : World) (hx : Ints w a n gs) :
    Calls Tryd.prog 24 #[.agg #[.int .i64 u, .slice a n c], .int .i64 owner, .int .i64 group] w fun e w' => e = .returned (.int .i64 (classI u gs owner group)) ∧ Below w.heap.size w w' := by
  cases hu : (u == owner) with
  | true =>
    have huH := Lib.hid hu
    go_enter Tryd.func24, Tryd.ntmps24
    go_wp2
    go_ret
    exact ⟨ret_int (by have := huH.out; simp at this; simp [classI, this]), (Below.refl _ _).alloc (Nat.le_refl _) _⟩
  | false =>
    have huH := Lib.hid hu
    cases hi : isIn group gs with
    | true =>
      have hiH := Lib.hid hi
      go_enter Tryd.func24, Tryd.ntmps24
      go_wp2_with (go_at_call 34; refine (contains_calls _ _ _ gs _ _ (hx.later ((Below.refl _ _).alloc (Nat.le_refl _) _))).mono ?_; rintro e w' ⟨rfl, rfl⟩)
      go_ret
      exact ⟨ret_int (by have := huH.out; simp at this; simp [classI, this, hiH.out]), (Below.refl _ _).alloc (Nat.le_refl _) _⟩
    | false =>
      have hiH := Lib.hid hi
      go_enter Tryd.func24, Tryd.ntmps24
      go_wp2_with (go_at_call 34; refine (contains_calls _ _ _ gs _ _ (hx.later ((Below.refl _ _).alloc (Nat.le_refl _) _))).mono ?_; rintro e w' ⟨rfl, rfl⟩)
      go_ret
      exact ⟨ret_int (by have := huH.out; simp at this; simp [classI, this, hiH.out]), (Below.refl _ _).alloc (Nat.le_refl _) _⟩

/-- The package-level table of places. -/
def Shifts (w : World) : Prop := 0 < w.heap.size ∧ w.cell? ⟨0, 0, none⟩ = some (.int .i64 6) ∧ w.cell? ⟨0, 1, none⟩ = some (.int .i64 3) ∧ w.cell? ⟨0, 2, none⟩ = some (.int .i64 0)

theorem bel1 (w : World) (o : Obj) : Below w.heap.size w (w.alloc o) := (Below.refl _ _).alloc (Nat.le_refl _) _
theorem bel_then {B : Nat} {w w1 w2 : World} (h : Below B w w1) (hB : B ≤ w1.heap.size) (k : Below w1.heap.size w1 w2) : Below B w w2 := h.trans (k.mono hB)
theorem Shifts.later {w w1 : World} (h : Shifts w) (hb : Below w.heap.size w w1) : Shifts w1 :=
  ⟨Nat.lt_of_lt_of_le h.1 hb.size, (hb.cell (p := ⟨0, 0, none⟩) h.1).trans h.2.1, (hb.cell (p := ⟨0, 1, none⟩) h.1).trans h.2.2.1, (hb.cell (p := ⟨0, 2, none⟩) h.1).trans h.2.2.2⟩

def bitsI (m c : Int) : Int := if validB m = true then (if c = 0 then bits BinOp.and IntKind.i64 (m / 64) 7 else if c = 1 then bits BinOp.and IntKind.i64 (m / 8) 7 else if c = 2 then bits BinOp.and IntKind.i64 m 7 else 0) else 0

set_option maxHeartbeats 400000 in
theorem bits_calls (m c : Int) (w : World) (hs : Shifts w) :
    Calls Tryd.prog 14 #[.int .i64 m, .int .i64 c] w fun e w' => e = .returned (.int .i64 (bitsI m c)) ∧ w = w' := by
  obtain ⟨_, h0, h1, h2⟩ := hs
  cases hv : validB m with
  | false =>
    have hvH := Lib.hid hv
    go_enter Tryd.func14, Tryd.ntmps14
    go_wp2_with (go_at_call 23; refine (valid_calls _ _).mono ?_; rintro e w' ⟨rfl, rfl⟩)
    go_ret
    exact ⟨ret_int (by simp [bitsI, hvH.out]), rfl⟩
  | true =>
    have hvH := Lib.hid hv
    by_cases hc0 : c < 0
    · go_enter Tryd.func14, Tryd.ntmps14
      go_wp2_with (go_at_call 23; refine (valid_calls _ _).mono ?_; rintro e w' ⟨rfl, rfl⟩)
      go_ret
      exact ⟨ret_int (by simp [bitsI, show c ≠ 0 by omega, show c ≠ 1 by omega, show c ≠ 2 by omega]), rfl⟩
    · by_cases hc2 : 2 < c
      · go_enter Tryd.func14, Tryd.ntmps14
        go_wp2_with (go_at_call 23; refine (valid_calls _ _).mono ?_; rintro e w' ⟨rfl, rfl⟩)
        go_ret
        exact ⟨ret_int (by simp [bitsI, show c ≠ 0 by omega, show c ≠ 1 by omega, show c ≠ 2 by omega]), rfl⟩
      · have hc : c = 0 ∨ c = 1 ∨ c = 2 := by omega
        clear hc0 hc2
        rcases hc with rfl | rfl | rfl
        all_goals
          go_enter Tryd.func14, Tryd.ntmps14
          go_wp2_with (go_at_call 23; refine (valid_calls _ _).mono ?_; rintro e w' ⟨rfl, rfl⟩)
          go_ret
          exact ⟨ret_int (by simp [bitsI, hvH.out]), rfl⟩

/-- The number of the error of Require. -/
def requireI (u : Int) (gs : List Int) (owner group m want : Int) : Int :=
  if validB m = true ∧ 0 ≤ want ∧ want ≤ 7 then (if u = 0 ∨ bits BinOp.and IntKind.i64 (bitsI m (classI u gs owner group)) want = want then 0 else 14) else 2

set_option maxHeartbeats 400000 in
theorem require_calls (u : Int) (a : Option Addr) (n c : Nat) (gs : List Int) (owner group m want : Int) (w : World) (hx : Ints w a n gs) (hs : Shifts w) :
    Calls Tryd.prog 11 #[.agg #[.int .i64 u, .slice a n c], .int .i64 owner, .int .i64 group, .int .i64 m, .int .i64 want] w fun e w' => e = .returned (.int .i64 (requireI u gs owner group m want)) ∧ Below w.heap.size w w' := by
  cases hv : validB m with
  | false =>
    have hvH := Lib.hid hv
    go_enter Tryd.func11, Tryd.ntmps11
    go_wp2_with (go_at_call 23; refine (valid_calls _ _).mono ?_; rintro e w' ⟨rfl, rfl⟩)
    go_ret
    exact ⟨ret_int (by simp [requireI, hvH.out]), (Below.refl _ _).alloc (Nat.le_refl _) _⟩
  | true =>
    have hvH := Lib.hid hv
    by_cases hc0 : want < 0
    · go_enter Tryd.func11, Tryd.ntmps11
      go_wp2_with (go_at_call 23; refine (valid_calls _ _).mono ?_; rintro e w' ⟨rfl, rfl⟩)
      go_ret
      exact ⟨ret_int (by simp [requireI, show ¬ 0 ≤ want by omega]), (Below.refl _ _).alloc (Nat.le_refl _) _⟩
    · by_cases hc2 : 7 < want
      · go_enter Tryd.func11, Tryd.ntmps11
        go_wp2_with (go_at_call 23; refine (valid_calls _ _).mono ?_; rintro e w' ⟨rfl, rfl⟩)
        go_ret
        exact ⟨ret_int (by simp [requireI, show ¬ want ≤ 7 by omega]), (Below.refl _ _).alloc (Nat.le_refl _) _⟩
      · cases hu : (u == 0) with
        | true =>
          have huH := Lib.hid hu
          go_enter Tryd.func11, Tryd.ntmps11
          go_wp2_with (go_at_call 23; refine (valid_calls _ _).mono ?_; rintro e w' ⟨rfl, rfl⟩)
          go_ret
          exact ⟨ret_int (by have := huH.out; simp at this; simp [requireI, this, hvH.out, show 0 ≤ want by omega, show want ≤ 7 by omega]), (Below.refl _ _).alloc (Nat.le_refl _) _⟩
        | false =>
          have huH := Lib.hid hu
          cases hb : (bits BinOp.and IntKind.i64 (bitsI m (classI u gs owner group)) want == want) with
          | true =>
            have hbH := Lib.hid hb
            go_enter Tryd.func11, Tryd.ntmps11
            go_wp2_with (first | (go_at_call 23; refine (valid_calls _ _).mono ?_; rintro e w' ⟨rfl, rfl⟩) | (go_at_call 24; refine (class_calls _ _ _ _ gs _ _ _ (hx.later (bel1 _ _))).mono ?_; rintro e w1 ⟨rfl, hb1⟩) | (go_at_call 14; refine (bits_calls _ _ _ ((hs.later (bel1 _ _)).later hb1)).mono ?_; rintro e w2 ⟨rfl, rfl⟩))
            go_ret
            exact ⟨ret_int (by have := huH.out; have h2 := hbH.out; simp at this h2; simp [requireI, this, hvH.out, hc0, hc2, h2]), bel_then (bel1 _ _) (by simp) hb1⟩
          | false =>
            have hbH := Lib.hid hb
            go_enter Tryd.func11, Tryd.ntmps11
            go_wp2_with (first | (go_at_call 23; refine (valid_calls _ _).mono ?_; rintro e w' ⟨rfl, rfl⟩) | (go_at_call 24; refine (class_calls _ _ _ _ gs _ _ _ (hx.later (bel1 _ _))).mono ?_; rintro e w1 ⟨rfl, hb1⟩) | (go_at_call 14; refine (bits_calls _ _ _ ((hs.later (bel1 _ _)).later hb1)).mono ?_; rintro e w2 ⟨rfl, rfl⟩))
            go_ret
            exact ⟨ret_int (by have := huH.out; have h2 := hbH.out; simp at this h2; simp [requireI, this, hvH.out, hc0, hc2, h2]), bel_then (bel1 _ _) (by simp) hb1⟩

end Go.Proofs.YtkjmmpdmbdimoaaDoor
