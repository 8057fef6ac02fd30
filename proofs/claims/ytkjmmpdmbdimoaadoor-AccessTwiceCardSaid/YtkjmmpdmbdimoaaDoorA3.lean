/- Contracts of Change, Remove, and of the reference's Class, Bits, Require, Remove. -/
import Derived.Test.YtkjmmpdmbdimoaaDoorA2
namespace Go.Proofs.YtkjmmpdmbdimoaaDoor
open Go.RowKit

def changeI (u owner : Int) : Int := if u = 0 ∨ u = owner then 0 else 14

set_option maxHeartbeats 400000 in
theorem change_calls (u : Int) (s : Value) (owner : Int) (w : World) :
    Calls Tryd.prog 16 #[.agg #[.int .i64 u, s], .int .i64 owner] w fun e w' => e = .returned (.int .i64 (changeI u owner)) ∧ Below w.heap.size w w' := by
  cases h0 : (u == 0) with
  | true =>
    have H0 := Lib.hid h0
    go_enter Tryd.func16, Tryd.ntmps16
    go_wp2
    go_ret
    exact ⟨ret_int (by have := H0.out; simp at this; simp [changeI, this]), bel1 _ _⟩
  | false =>
    have H0 := Lib.hid h0
    cases h1 : (u == owner) with
    | true =>
      have H1 := Lib.hid h1
      go_enter Tryd.func16, Tryd.ntmps16
      go_wp2
      go_ret
      exact ⟨ret_int (by have := H1.out; simp at this; simp [changeI, this]), bel1 _ _⟩
    | false =>
      have H1 := Lib.hid h1
      go_enter Tryd.func16, Tryd.ntmps16
      go_wp2
      go_ret
      exact ⟨ret_int (by have := H1.out; have := H0.out; simp at *; simp [changeI, *]), bel1 _ _⟩

def removeI (u : Int) (gs : List Int) (owner group m fowner : Int) : Int :=
  if (requireI u gs owner group m 3 != 0) = true then requireI u gs owner group m 3 else if (bits BinOp.and IntKind.i64 m 1024 != 0) = true ∧ (u != 0) = true ∧ (u != owner) = true ∧ (u != fowner) = true then 14 else 0

set_option maxHeartbeats 400000 in
theorem remove_calls (u : Int) (a : Option Addr) (n c : Nat) (gs : List Int) (owner group m fowner : Int) (w : World) (hx : Ints w a n gs) (hs : Shifts w) :
    Calls Tryd.prog 17 #[.agg #[.int .i64 u, .slice a n c], .int .i64 owner, .int .i64 group, .int .i64 m, .int .i64 fowner] w fun e w' => e = .returned (.int .i64 (removeI u gs owner group m fowner)) ∧ Below w.heap.size w w' := by
  cases hr : (requireI u gs owner group m 3 != 0) with
  | true =>
    have HR := Lib.hid hr
    go_enter Tryd.func17, Tryd.ntmps17
    go_wp2_with (go_at_call 11; refine (require_calls _ _ _ _ gs _ _ _ _ _ (hx.later (bel1 _ _)) (hs.later (bel1 _ _))).mono ?_; rintro e w1 ⟨rfl, hb1⟩)
    go_ret
    exact ⟨ret_int (by simp only [removeI, HR.out]; simp), bel_then (bel1 _ _) (by simp) hb1⟩
  | false =>
    have HR := Lib.hid hr
    cases h0 : (bits BinOp.and IntKind.i64 m 1024 != 0) with
    | false =>
      have H0 := Lib.hid h0
      go_enter Tryd.func17, Tryd.ntmps17
      go_wp2_with (go_at_call 11; refine (require_calls _ _ _ _ gs _ _ _ _ _ (hx.later (bel1 _ _)) (hs.later (bel1 _ _))).mono ?_; rintro e w1 ⟨rfl, hb1⟩)
      go_ret
      exact ⟨ret_int (by simp only [removeI, HR.out, H0.out]; simp), bel_then (bel1 _ _) (by simp) hb1⟩
    | true =>
      have H0 := Lib.hid h0
      cases h1 : (u != 0) <;> cases h2 : (u != owner) <;> cases h3 : (u != fowner)
      all_goals
        have H1 := Lib.hid h1
        have H2 := Lib.hid h2
        have H3 := Lib.hid h3
        go_enter Tryd.func17, Tryd.ntmps17
        go_wp2_with (go_at_call 11; refine (require_calls _ _ _ _ gs _ _ _ _ _ (hx.later (bel1 _ _)) (hs.later (bel1 _ _))).mono ?_; rintro e w1 ⟨rfl, hb1⟩; have hcell : w1.cell? ⟨w.heap.size, 0, none⟩ = some (.int .i64 u) := (hb1.cell (p := ⟨w.heap.size, 0, none⟩) (by simp)).trans (by simp))
        go_ret
        exact ⟨ret_int (by simp only [removeI, HR.out, H0.out, H1.out, H2.out, H3.out]; simp), bel_then (bel1 _ _) (by simp) hb1⟩

theorem rvalid_calls (m : Int) (w : World) :
    Calls Tryd.prog 31 #[.int .i64 m] w fun e w' => e = .returned (.bool (validB m)) ∧ w = w' := by
  by_cases h0 : 0 ≤ m
  · by_cases h1 : m ≤ 2047
    · go_enter Tryd.func31, Tryd.ntmps31
      go_wp2
      go_ret
      exact ⟨by simp [validB, h0, h1], rfl⟩
    · go_enter Tryd.func31, Tryd.ntmps31
      go_wp2
      go_ret
      exact ⟨by simp [validB, h1], rfl⟩
  · go_enter Tryd.func31, Tryd.ntmps31
    go_wp2
    go_ret
    exact ⟨by simp [validB]; intro h; omega, rfl⟩

set_option maxHeartbeats 400000 in
theorem rclass_calls (u : Int) (a : Option Addr) (n c : Nat) (gs : List Int) (owner group : Int) (w : World) (hx : Ints w a n gs) :
    Calls Tryd.prog 35 #[.agg #[.int .i64 u, .slice a n c], .int .i64 owner, .int .i64 group] w fun e w' => e = .returned (.int .i64 (classI u gs owner group)) ∧ Below w.heap.size w w' := by
  cases hu : (u == owner) with
  | true =>
    have huH := Lib.hid hu
    go_enter Tryd.func35, Tryd.ntmps35
    go_wp2
    go_ret
    exact ⟨ret_int (by have := huH.out; simp at this; simp [classI, this]), bel1 _ _⟩
  | false =>
    have huH := Lib.hid hu
    have hx1 := hx.later (bel1 w (.cells #[.int .i64 u, .slice a n c] 24))
    obtain ⟨hl, hm, hc⟩ := hx1
    have hc' := Lib.hid hc
    have hl' := Lib.hid hl
    clear hc hl hx
    go_enter Tryd.func35, Tryd.ntmps35
    go_wp2
    go_loop [7] (fun i => ∃ k : Nat, k ≤ n ∧ i = .int .i64 k ∧ Hid (∀ j, j < k → gs[j]?.getD 0 ≠ group)) (fun i => n - (intOf i).toNat)
    case atStart => exact ⟨0, Nat.zero_le _, rfl, fun j hj => absurd hj (by omega)⟩
    case round =>
      obtain ⟨k, hk, rfl, hno⟩ := hrel
      by_cases hlt : k < n
      · obtain ⟨b, o, ha, hcell⟩ := hc'.out k hlt
        subst ha
        cases hv : (gs[k]?.getD 0 == group) with
        | true =>
          have hvH := Lib.hid hv
          go_wp2
          go_ret
          exact ⟨ret_int (by have := huH.out; simp at this; simp [classI, this, isIn_at (v := group) (xs := gs) (k := k) (by rw [hl'.out]; exact hlt) (by rw [Bool.beq_comm]; exact hvH.out)]), bel1 _ _⟩
        | false =>
          have hvH := Lib.hid hv
          go_wp2
          go_round
          case rel => exact ⟨k + 1, by omega, by go_num, fun j hj => by
            by_cases e : j = k
            · subst e; exact fun h => by have := hvH.out; simp [h] at this
            · exact hno.out j (by omega)⟩
          case measure => simp [intOf]; omega
      · have hkn : Hid (k = n) := by show k = n; omega
        go_wp2
        go_ret
        exact ⟨ret_int (by have := huH.out; simp at this; simp [classI, this, isIn_no (v := group) (xs := gs) (fun j hj => hno.out j (by have := hl'.out; have := hkn.out; omega))]), bel1 _ _⟩

def refB (x : Int) (k : Nat) : Int := if k = 0 then x / 8 / 8 % 8 else if k = 1 then x / 8 % 8 else x % 8
theorem refB_all : ∀ m : Fin 2048, refB (m : Nat) 0 = bitsI (m : Nat) 0 ∧ refB (m : Nat) 1 = bitsI (m : Nat) 1 ∧ refB (m : Nat) 2 = bitsI (m : Nat) 2 := by decide +kernel
theorem validB_iff {m : Int} : validB m = true ↔ 0 ≤ m ∧ m ≤ 2047 := by simp [validB]
theorem refB_eq {m : Int} {k : Nat} (h : validB m = true) (hk : k ≤ 2) : refB m k = bitsI m k := by
  obtain ⟨h0, h1⟩ := validB_iff.1 h
  obtain ⟨j, rfl⟩ := Int.eq_ofNat_of_zero_le h0
  have := refB_all ⟨j, by omega⟩
  have hk : k = 0 ∨ k = 1 ∨ k = 2 := by omega
  rcases hk with rfl | rfl | rfl
  · exact this.1
  · exact this.2.1
  · exact this.2.2
theorem refB_step (x : Int) (k : Nat) (h : k < 2) : refB (x / 8) (k + 1) = refB x k := by
  have hk : k = 0 ∨ k = 1 := by omega
  rcases hk with rfl | rfl <;> simp [refB]

set_option maxHeartbeats 400000 in
theorem rbits_calls (m c : Int) (w : World) :
    Calls Tryd.prog 15 #[.int .i64 m, .int .i64 c] w fun e w' => e = .returned (.int .i64 (bitsI m c)) ∧ w = w' := by
  cases hv : validB m with
  | false =>
    have hvH := Lib.hid hv
    go_enter Tryd.func15, Tryd.ntmps15
    go_wp2_with (go_at_call 31; refine (rvalid_calls _ _).mono ?_; rintro e w' ⟨rfl, rfl⟩)
    go_ret
    exact ⟨ret_int (by simp [bitsI, hvH.out]), rfl⟩
  | true =>
    have hvH := Lib.hid hv
    by_cases hc0 : c < 0
    · go_enter Tryd.func15, Tryd.ntmps15
      go_wp2_with (go_at_call 31; refine (rvalid_calls _ _).mono ?_; rintro e w' ⟨rfl, rfl⟩)
      go_ret
      exact ⟨ret_int (by simp [bitsI, show c ≠ 0 by omega, show c ≠ 1 by omega, show c ≠ 2 by omega]), rfl⟩
    · by_cases hc2 : 2 < c
      · go_enter Tryd.func15, Tryd.ntmps15
        go_wp2_with (go_at_call 31; refine (rvalid_calls _ _).mono ?_; rintro e w' ⟨rfl, rfl⟩)
        go_ret
        exact ⟨ret_int (by simp [bitsI, show c ≠ 0 by omega, show c ≠ 1 by omega, show c ≠ 2 by omega]), rfl⟩
      · obtain ⟨cn, rfl⟩ := Int.eq_ofNat_of_zero_le (show 0 ≤ c by omega)
        have hcn : cn ≤ 2 := by omega
        obtain ⟨hm0, hm1⟩ := validB_iff.1 hv
        have hfin := Lib.hid (refB_eq hv hcn)
        go_enter Tryd.func15, Tryd.ntmps15
        go_wp2_with (go_at_call 31; refine (rvalid_calls _ _).mono ?_; rintro e w' ⟨rfl, rfl⟩)
        go_loop [0, 5] (fun x i => ∃ (k : Nat) (y : Int), k ≤ 2 ∧ i = .int .i64 k ∧ x = .int .i64 y ∧ 0 ≤ y ∧ y ≤ 2047 ∧ Hid (refB y k = refB m cn)) (fun _ i => 2 - (intOf i).toNat)
        case atStart => exact ⟨cn, m, hcn, rfl, rfl, hm0, hm1, rfl⟩
        case round =>
          obtain ⟨k, y, hk, rfl, rfl, hy0, hy1, hy⟩ := hrel
          by_cases hlt : k < 2
          · go_wp2
            go_round
            case rel => exact ⟨k + 1, y / 8, by omega, by go_num, rfl, by omega, by omega, by show _ = _; rw [refB_step _ _ hlt]; exact hy.out⟩
            case measure => simp [intOf]; omega
          · have hk2 : k = 2 := by omega
            subst hk2
            go_wp2
            go_ret
            exact ⟨ret_int (by have h1 := hy.out; have h2 := hfin.out; simp [refB] at h1; rw [h1]; simpa [refB] using h2), rfl⟩

end Go.Proofs.YtkjmmpdmbdimoaaDoor
