/- The reference's Require and Remove agree with the package's. -/
import Derived.Test.YtkjmmpdmbdimoaaDoorA4
namespace Go.Proofs.YtkjmmpdmbdimoaaDoor
open Go.RowKit

theorem and_range : ∀ m : Fin 2048, (0 ≤ bitsI (m : Nat) 0 ∧ bitsI (m : Nat) 0 ≤ 7) ∧ (0 ≤ bitsI (m : Nat) 1 ∧ bitsI (m : Nat) 1 ≤ 7) ∧ (0 ≤ bitsI (m : Nat) 2 ∧ bitsI (m : Nat) 2 ≤ 7) := by decide +kernel
theorem classI_cases (u : Int) (gs : List Int) (owner group : Int) : classI u gs owner group = 0 ∨ classI u gs owner group = 1 ∨ classI u gs owner group = 2 := by
  unfold classI; split
  · exact .inl rfl
  · split
    · exact .inr (.inl rfl)
    · exact .inr (.inr rfl)
theorem bitsI_range {m : Int} {c : Int} (hv : validB m = true) (hc : c = 0 ∨ c = 1 ∨ c = 2) : 0 ≤ bitsI m c ∧ bitsI m c ≤ 7 := by
  obtain ⟨h0, h1⟩ := validB_iff.1 hv
  obtain ⟨j, rfl⟩ := Int.eq_ofNat_of_zero_le h0
  have := and_range ⟨j, by omega⟩
  rcases hc with rfl | rfl | rfl
  · exact this.1
  · exact this.2.1
  · exact this.2.2
theorem deny_all : ∀ (z : Bool) (w h : Fin 8), rrequireI (if z then 0 else 1) (w : Nat) (h : Nat) = (if z = true ∨ bits BinOp.and IntKind.i64 (h : Nat) (w : Nat) = (w : Nat) then 0 else 14) := by decide +kernel
theorem rrequireI_eq {u want has : Int} (hw0 : 0 ≤ want) (hw1 : want ≤ 7) (h0 : 0 ≤ has) (h1 : has ≤ 7) : rrequireI u want has = (if u = 0 ∨ bits BinOp.and IntKind.i64 has want = want then 0 else 14) := by
  obtain ⟨i, rfl⟩ := Int.eq_ofNat_of_zero_le hw0
  obtain ⟨j, rfl⟩ := Int.eq_ofNat_of_zero_le h0
  by_cases hu : u = 0
  · subst hu
    have := deny_all true ⟨i, by omega⟩ ⟨j, by omega⟩
    simpa using this
  · have := deny_all false ⟨i, by omega⟩ ⟨j, by omega⟩
    have e : rrequireI u i j = rrequireI 1 i j := by simp [rrequireI, denied, hu]
    rw [e]
    simpa [hu] using this

theorem rrequire_calls (u : Int) (a : Option Addr) (n c : Nat) (gs : List Int) (owner group m want : Int) (w : World) (hx : Ints w a n gs) :
    Calls Tryd.prog 32 #[.agg #[.int .i64 u, .slice a n c], .int .i64 owner, .int .i64 group, .int .i64 m, .int .i64 want] w fun e w' => e = .returned (.int .i64 (requireI u gs owner group m want)) ∧ Below w.heap.size w w' := by
  by_cases h : validB m = true ∧ 0 ≤ want ∧ want ≤ 7
  · obtain ⟨hv, h0, h1⟩ := h
    have hr := bitsI_range hv (classI_cases u gs owner group)
    have e : requireI u gs owner group m want = rrequireI u want (bitsI m (classI u gs owner group)) := by
      rw [rrequireI_eq h0 h1 hr.1 hr.2, requireI, if_pos ⟨hv, h0, h1⟩]
    rw [e]
    exact rrequire_ok u a n c gs owner group m want w hx hv h0 h1 hr.1 hr.2
  · have e : requireI u gs owner group m want = 2 := by rw [requireI, if_neg h]
    rw [e]
    refine rrequire_no u _ owner group m want w ?_
    cases hv : validB m with
    | false => exact .inl rfl
    | true => simp only [hv, true_and] at h; omega

theorem sticky_all : ∀ m : Fin 2048, (((m : Nat) : Int) / 1024 % 2 == 1) = (bits BinOp.and IntKind.i64 (m : Nat) 1024 != 0) := by decide +kernel
theorem sticky_eq {m : Int} (hv : validB m = true) : (m / 1024 % 2 == 1) = (bits BinOp.and IntKind.i64 m 1024 != 0) := by
  obtain ⟨h0, h1⟩ := validB_iff.1 hv
  obtain ⟨j, rfl⟩ := Int.eq_ofNat_of_zero_le h0
  exact sticky_all ⟨j, by omega⟩
theorem requireI_valid {u : Int} {gs : List Int} {owner group m want : Int} (h : (requireI u gs owner group m want != 0) = false) : validB m = true := by
  unfold requireI at h
  split at h
  · rename_i h'; exact h'.1
  · simp at h

set_option maxHeartbeats 400000 in
theorem rremove_calls (u : Int) (a : Option Addr) (n c : Nat) (gs : List Int) (owner group m fowner : Int) (w : World) (hx : Ints w a n gs) :
    Calls Tryd.prog 18 #[.agg #[.int .i64 u, .slice a n c], .int .i64 owner, .int .i64 group, .int .i64 m, .int .i64 fowner] w fun e w' => e = .returned (.int .i64 (removeI u gs owner group m fowner)) ∧ Below w.heap.size w w' := by
  cases hr : (requireI u gs owner group m 3 != 0) with
  | true =>
    have HR := Lib.hid hr
    go_enter Tryd.func18, Tryd.ntmps18
    go_wp2_with (go_at_call 32; refine (rrequire_calls _ _ _ _ gs _ _ _ _ _ (hx.later (bel1 _ _))).mono ?_; rintro e w1 ⟨rfl, hb1⟩)
    go_ret
    exact ⟨ret_int (by simp only [removeI, HR.out]; simp), bel_then (bel1 _ _) (by simp) hb1⟩
  | false =>
    have HR := Lib.hid hr
    have hv := requireI_valid hr
    obtain ⟨hm0, hm1⟩ := validB_iff.1 hv
    have hst := sticky_eq hv
    clear hv
    cases h0 : (bits BinOp.and IntKind.i64 m 1024 != 0) with
    | false =>
      have H0 := Lib.hid h0
      rw [h0] at hst
      clear h0
      go_enter Tryd.func18, Tryd.ntmps18
      go_wp2_with (go_at_call 32; refine (rrequire_calls _ _ _ _ gs _ _ _ _ _ (hx.later (bel1 _ _))).mono ?_; rintro e w1 ⟨rfl, hb1⟩)
      go_ret
      exact ⟨ret_int (by simp only [removeI, HR.out, H0.out]; simp), bel_then (bel1 _ _) (by simp) hb1⟩
    | true =>
      have H0 := Lib.hid h0
      rw [h0] at hst
      clear h0
      cases h1 : (u != 0) <;> cases h2 : (u != owner) <;> cases h3 : (u != fowner)
      all_goals
        have H1 := Lib.hid h1
        have H2 := Lib.hid h2
        have H3 := Lib.hid h3
        go_enter Tryd.func18, Tryd.ntmps18
        go_wp2_with (go_at_call 32; refine (rrequire_calls _ _ _ _ gs _ _ _ _ _ (hx.later (bel1 _ _))).mono ?_; rintro e w1 ⟨rfl, hb1⟩; have hcell : w1.cell? ⟨w.heap.size, 0, none⟩ = some (.int .i64 u) := (hb1.cell (p := ⟨w.heap.size, 0, none⟩) (by simp)).trans (by simp))
        go_ret
        exact ⟨ret_int (by simp only [removeI, HR.out, H0.out, H1.out, H2.out, H3.out]; simp), bel_then (bel1 _ _) (by simp) hb1⟩

end Go.Proofs.YtkjmmpdmbdimoaaDoor
