/- The contract of Parse at the text of a mode. -/
import Derived.Test.YtkjmmpdmbdimoaaDoorB1
namespace Go.Proofs.YtkjmmpdmbdimoaaDoor
open Go.RowKit Go.Own

theorem ckStr {b : Bool} {s : ByteArray} : ∀ w', (Instr.checkKey b 10000 9 (.string s)).run Tryd.prog w' = .ok () w' := fun _ => MapKept.run_checkKey Tryd.underlying9 (by simp [MapKept.IsKey]) _ 9999

set_option maxHeartbeats 4000000 in
theorem parse_9 (b0 b1 b2 b3 b4 b5 b6 b7 b8 : UInt8) (p0 p1 p2 p3 p4 p5 p6 p7 p8 p9 : Int) (w : World) (e0 : p0 = 0) (r0 : 0 ≤ p0 ∧ p0 ≤ 511) (r1 : 0 ≤ p1 ∧ p1 ≤ 511) (r2 : 0 ≤ p2 ∧ p2 ≤ 511) (r3 : 0 ≤ p3 ∧ p3 ≤ 511) (r4 : 0 ≤ p4 ∧ p4 ≤ 511) (r5 : 0 ≤ p5 ∧ p5 ≤ 511) (r6 : 0 ≤ p6 ∧ p6 ≤ 511) (r7 : 0 ≤ p7 ∧ p7 ≤ 511) (r8 : 0 ≤ p8 ∧ p8 ≤ 511) (r9 : 0 ≤ p9 ∧ p9 ≤ 511) (H0 : (b0 = 45 ∧ p0*2 = p1) ∨ (b0 = 114 ∧ p0*2 + 1 = p1)) (H1 : (b1 = 45 ∧ p1*2 = p2) ∨ (b1 = 119 ∧ p1*2 + 1 = p2)) (H2 : (b2 = 45 ∧ p2*2 = p3) ∨ (b2 = 120 ∧ p2*2 + 1 = p3)) (H3 : (b3 = 45 ∧ p3*2 = p4) ∨ (b3 = 114 ∧ p3*2 + 1 = p4)) (H4 : (b4 = 45 ∧ p4*2 = p5) ∨ (b4 = 119 ∧ p4*2 + 1 = p5)) (H5 : (b5 = 45 ∧ p5*2 = p6) ∨ (b5 = 120 ∧ p5*2 + 1 = p6)) (H6 : (b6 = 45 ∧ p6*2 = p7) ∨ (b6 = 114 ∧ p6*2 + 1 = p7)) (H7 : (b7 = 45 ∧ p7*2 = p8) ∨ (b7 = 119 ∧ p7*2 + 1 = p8)) (H8 : (b8 = 45 ∧ p8*2 = p9) ∨ (b8 = 120 ∧ p8*2 + 1 = p9)) :
    Calls Tryd.prog 21 #[.string ⟨#[b0, b1, b2, b3, b4, b5, b6, b7, b8]⟩] w fun e w' => e = .returned (.tuple #[.int .i64 (bits .or .i64 p9 0), .int .i64 0, .int .i64 0]) ∧ Below w.heap.size w w' := by
  subst e0
  have G0 := Lib.hid H0
  have G1 := Lib.hid H1
  have G2 := Lib.hid H2
  have G3 := Lib.hid H3
  have G4 := Lib.hid H4
  have G5 := Lib.hid H5
  have G6 := Lib.hid H6
  have G7 := Lib.hid H7
  have G8 := Lib.hid H8
  have R1 := Lib.hid r1
  have R2 := Lib.hid r2
  have R3 := Lib.hid r3
  have R4 := Lib.hid r4
  have R5 := Lib.hid r5
  have R6 := Lib.hid r6
  have R7 := Lib.hid r7
  have R8 := Lib.hid r8
  have R9 := Lib.hid r9
  clear H0 H1 H2 H3 H4 H5 H6 H7 H8 r0 r1 r2 r3 r4 r5 r6 r7 r8 r9
  have hmm := @run_makeMap Tryd.prog
  go_enter Tryd.func21, Tryd.ntmps21
  go_wp2
  go_loop [5, 13] (fun x i => (i = .int .i64 0 ∧ x = .int .i64 0) ∨ (i = .int .i64 1 ∧ x = .int .i64 p1) ∨ (i = .int .i64 2 ∧ x = .int .i64 p2) ∨ (i = .int .i64 3 ∧ x = .int .i64 p3) ∨ (i = .int .i64 4 ∧ x = .int .i64 p4) ∨ (i = .int .i64 5 ∧ x = .int .i64 p5) ∨ (i = .int .i64 6 ∧ x = .int .i64 p6) ∨ (i = .int .i64 7 ∧ x = .int .i64 p7) ∨ (i = .int .i64 8 ∧ x = .int .i64 p8) ∨ (i = .int .i64 9 ∧ x = .int .i64 p9)) (fun _ i => 9 - (intOf i).toNat)
  case atStart => exact .inl ⟨rfl, rfl⟩
  case round =>
    rcases hrel with ⟨rfl, rfl⟩ | ⟨rfl, rfl⟩ | ⟨rfl, rfl⟩ | ⟨rfl, rfl⟩ | ⟨rfl, rfl⟩ | ⟨rfl, rfl⟩ | ⟨rfl, rfl⟩ | ⟨rfl, rfl⟩ | ⟨rfl, rfl⟩ | ⟨rfl, rfl⟩
    · obtain ⟨l1, l2⟩ := R1.out
      rcases G0.out with ⟨hb, hp⟩ | ⟨hb, hp⟩
      · subst hb
        have HP := Lib.hid hp
        clear hp
        go_wp2
        go_round
        case rel => exact .inr (.inl ⟨rfl, congrArg _ (by have := HP.out; omega)⟩)
        case measure => simp [intOf]
      · subst hb
        have HP := Lib.hid hp
        clear hp
        go_wp2
        go_round
        case rel => exact .inr (.inl ⟨rfl, congrArg _ (by have := HP.out; omega)⟩)
        case measure => simp [intOf]
    · obtain ⟨l1, l2⟩ := R2.out
      obtain ⟨l3, l4⟩ := R1.out
      rcases G1.out with ⟨hb, hp⟩ | ⟨hb, hp⟩
      · subst hb
        have HP := Lib.hid hp
        clear hp
        go_wp2
        go_round
        case rel => exact .inr (.inr (.inl ⟨rfl, congrArg _ (by have := HP.out; omega)⟩))
        case measure => simp [intOf]
      · subst hb
        have HP := Lib.hid hp
        clear hp
        go_wp2
        go_round
        case rel => exact .inr (.inr (.inl ⟨rfl, congrArg _ (by have := HP.out; omega)⟩))
        case measure => simp [intOf]
    · obtain ⟨l1, l2⟩ := R3.out
      obtain ⟨l3, l4⟩ := R2.out
      rcases G2.out with ⟨hb, hp⟩ | ⟨hb, hp⟩
      · subst hb
        have HP := Lib.hid hp
        clear hp
        go_wp2
        go_round
        case rel => exact .inr (.inr (.inr (.inl ⟨rfl, congrArg _ (by have := HP.out; omega)⟩)))
        case measure => simp [intOf]
      · subst hb
        have HP := Lib.hid hp
        clear hp
        go_wp2
        go_round
        case rel => exact .inr (.inr (.inr (.inl ⟨rfl, congrArg _ (by have := HP.out; omega)⟩)))
        case measure => simp [intOf]
    · obtain ⟨l1, l2⟩ := R4.out
      obtain ⟨l3, l4⟩ := R3.out
      rcases G3.out with ⟨hb, hp⟩ | ⟨hb, hp⟩
      · subst hb
        have HP := Lib.hid hp
        clear hp
        go_wp2
        go_round
        case rel => exact .inr (.inr (.inr (.inr (.inl ⟨rfl, congrArg _ (by have := HP.out; omega)⟩))))
        case measure => simp [intOf]
      · subst hb
        have HP := Lib.hid hp
        clear hp
        go_wp2
        go_round
        case rel => exact .inr (.inr (.inr (.inr (.inl ⟨rfl, congrArg _ (by have := HP.out; omega)⟩))))
        case measure => simp [intOf]
    · obtain ⟨l1, l2⟩ := R5.out
      obtain ⟨l3, l4⟩ := R4.out
      rcases G4.out with ⟨hb, hp⟩ | ⟨hb, hp⟩
      · subst hb
        have HP := Lib.hid hp
        clear hp
        go_wp2
        go_round
        case rel => exact .inr (.inr (.inr (.inr (.inr (.inl ⟨rfl, congrArg _ (by have := HP.out; omega)⟩)))))
        case measure => simp [intOf]
      · subst hb
        have HP := Lib.hid hp
        clear hp
        go_wp2
        go_round
        case rel => exact .inr (.inr (.inr (.inr (.inr (.inl ⟨rfl, congrArg _ (by have := HP.out; omega)⟩)))))
        case measure => simp [intOf]
    · obtain ⟨l1, l2⟩ := R6.out
      obtain ⟨l3, l4⟩ := R5.out
      rcases G5.out with ⟨hb, hp⟩ | ⟨hb, hp⟩
      · subst hb
        have HP := Lib.hid hp
        clear hp
        go_wp2
        go_round
        case rel => exact .inr (.inr (.inr (.inr (.inr (.inr (.inl ⟨rfl, congrArg _ (by have := HP.out; omega)⟩))))))
        case measure => simp [intOf]
      · subst hb
        have HP := Lib.hid hp
        clear hp
        go_wp2
        go_round
        case rel => exact .inr (.inr (.inr (.inr (.inr (.inr (.inl ⟨rfl, congrArg _ (by have := HP.out; omega)⟩))))))
        case measure => simp [intOf]
    · obtain ⟨l1, l2⟩ := R7.out
      obtain ⟨l3, l4⟩ := R6.out
      rcases G6.out with ⟨hb, hp⟩ | ⟨hb, hp⟩
      · subst hb
        have HP := Lib.hid hp
        clear hp
        go_wp2
        go_round
        case rel => exact .inr (.inr (.inr (.inr (.inr (.inr (.inr (.inl ⟨rfl, congrArg _ (by have := HP.out; omega)⟩)))))))
        case measure => simp [intOf]
      · subst hb
        have HP := Lib.hid hp
        clear hp
        go_wp2
        go_round
        case rel => exact .inr (.inr (.inr (.inr (.inr (.inr (.inr (.inl ⟨rfl, congrArg _ (by have := HP.out; omega)⟩)))))))
        case measure => simp [intOf]
    · obtain ⟨l1, l2⟩ := R8.out
      obtain ⟨l3, l4⟩ := R7.out
      rcases G7.out with ⟨hb, hp⟩ | ⟨hb, hp⟩
      · subst hb
        have HP := Lib.hid hp
        clear hp
        go_wp2
        go_round
        case rel => exact .inr (.inr (.inr (.inr (.inr (.inr (.inr (.inr (.inl ⟨rfl, congrArg _ (by have := HP.out; omega)⟩))))))))
        case measure => simp [intOf]
      · subst hb
        have HP := Lib.hid hp
        clear hp
        go_wp2
        go_round
        case rel => exact .inr (.inr (.inr (.inr (.inr (.inr (.inr (.inr (.inl ⟨rfl, congrArg _ (by have := HP.out; omega)⟩))))))))
        case measure => simp [intOf]
    · obtain ⟨l1, l2⟩ := R9.out
      obtain ⟨l3, l4⟩ := R8.out
      rcases G8.out with ⟨hb, hp⟩ | ⟨hb, hp⟩
      · subst hb
        have HP := Lib.hid hp
        clear hp
        go_wp2
        go_round
        case rel => exact .inr (.inr (.inr (.inr (.inr (.inr (.inr (.inr (.inr (⟨rfl, congrArg _ (by have := HP.out; omega)⟩)))))))))
        case measure => simp [intOf]
      · subst hb
        have HP := Lib.hid hp
        clear hp
        go_wp2
        go_round
        case rel => exact .inr (.inr (.inr (.inr (.inr (.inr (.inr (.inr (.inr (⟨rfl, congrArg _ (by have := HP.out; omega)⟩)))))))))
        case measure => simp [intOf]
    · obtain ⟨l1, l2⟩ := R9.out
      have hex : (⟨#[b0, b1, b2, b3, b4, b5, b6, b7, b8]⟩ : ByteArray).extract 9 9 = ⟨#[]⟩ := rfl
      go_wp2_with (first
        | (refine wpList_insert_new 9 3 .string Tryd.underlying70 Tryd.underlying9 (by rfl) (by rfl) (by rfl) ckStr (by kernel_rfl) ?_)
        | (refine wpList_lookup_found 9 3 .string Tryd.underlying70 Tryd.underlying9 (by rfl) (MapIs.new _ _ _) (by rfl) (fun b => ckStr) (i := 0) (v := .int .i64 0) (by kernel_rfl) ?_))
      go_ret3
      exact ⟨rfl, bel1 _ _⟩

set_option maxHeartbeats 4000000 in
theorem parse_s (b0 b1 b2 b3 b4 b5 b6 b7 b8 : UInt8) (p0 p1 p2 p3 p4 p5 p6 p7 p8 p9 : Int) (w : World) (e0 : p0 = 0) (r0 : 0 ≤ p0 ∧ p0 ≤ 511) (r1 : 0 ≤ p1 ∧ p1 ≤ 511) (r2 : 0 ≤ p2 ∧ p2 ≤ 511) (r3 : 0 ≤ p3 ∧ p3 ≤ 511) (r4 : 0 ≤ p4 ∧ p4 ≤ 511) (r5 : 0 ≤ p5 ∧ p5 ≤ 511) (r6 : 0 ≤ p6 ∧ p6 ≤ 511) (r7 : 0 ≤ p7 ∧ p7 ≤ 511) (r8 : 0 ≤ p8 ∧ p8 ≤ 511) (r9 : 0 ≤ p9 ∧ p9 ≤ 511) (H0 : (b0 = 45 ∧ p0*2 = p1) ∨ (b0 = 114 ∧ p0*2 + 1 = p1)) (H1 : (b1 = 45 ∧ p1*2 = p2) ∨ (b1 = 119 ∧ p1*2 + 1 = p2)) (H2 : (b2 = 45 ∧ p2*2 = p3) ∨ (b2 = 120 ∧ p2*2 + 1 = p3)) (H3 : (b3 = 45 ∧ p3*2 = p4) ∨ (b3 = 114 ∧ p3*2 + 1 = p4)) (H4 : (b4 = 45 ∧ p4*2 = p5) ∨ (b4 = 119 ∧ p4*2 + 1 = p5)) (H5 : (b5 = 45 ∧ p5*2 = p6) ∨ (b5 = 120 ∧ p5*2 + 1 = p6)) (H6 : (b6 = 45 ∧ p6*2 = p7) ∨ (b6 = 114 ∧ p6*2 + 1 = p7)) (H7 : (b7 = 45 ∧ p7*2 = p8) ∨ (b7 = 119 ∧ p7*2 + 1 = p8)) (H8 : (b8 = 45 ∧ p8*2 = p9) ∨ (b8 = 120 ∧ p8*2 + 1 = p9)) :
    Calls Tryd.prog 21 #[.string ⟨#[b0, b1, b2, b3, b4, b5, b6, b7, b8, 43, 115]⟩] w fun e w' => e = .returned (.tuple #[.int .i64 (bits .or .i64 p9 512), .int .i64 0, .int .i64 0]) ∧ Below w.heap.size w w' := by
  subst e0
  have G0 := Lib.hid H0
  have G1 := Lib.hid H1
  have G2 := Lib.hid H2
  have G3 := Lib.hid H3
  have G4 := Lib.hid H4
  have G5 := Lib.hid H5
  have G6 := Lib.hid H6
  have G7 := Lib.hid H7
  have G8 := Lib.hid H8
  have R1 := Lib.hid r1
  have R2 := Lib.hid r2
  have R3 := Lib.hid r3
  have R4 := Lib.hid r4
  have R5 := Lib.hid r5
  have R6 := Lib.hid r6
  have R7 := Lib.hid r7
  have R8 := Lib.hid r8
  have R9 := Lib.hid r9
  clear H0 H1 H2 H3 H4 H5 H6 H7 H8 r0 r1 r2 r3 r4 r5 r6 r7 r8 r9
  have hmm := @run_makeMap Tryd.prog
  go_enter Tryd.func21, Tryd.ntmps21
  go_wp2
  go_loop [5, 13] (fun x i => (i = .int .i64 0 ∧ x = .int .i64 0) ∨ (i = .int .i64 1 ∧ x = .int .i64 p1) ∨ (i = .int .i64 2 ∧ x = .int .i64 p2) ∨ (i = .int .i64 3 ∧ x = .int .i64 p3) ∨ (i = .int .i64 4 ∧ x = .int .i64 p4) ∨ (i = .int .i64 5 ∧ x = .int .i64 p5) ∨ (i = .int .i64 6 ∧ x = .int .i64 p6) ∨ (i = .int .i64 7 ∧ x = .int .i64 p7) ∨ (i = .int .i64 8 ∧ x = .int .i64 p8) ∨ (i = .int .i64 9 ∧ x = .int .i64 p9)) (fun _ i => 9 - (intOf i).toNat)
  case atStart => exact .inl ⟨rfl, rfl⟩
  case round =>
    rcases hrel with ⟨rfl, rfl⟩ | ⟨rfl, rfl⟩ | ⟨rfl, rfl⟩ | ⟨rfl, rfl⟩ | ⟨rfl, rfl⟩ | ⟨rfl, rfl⟩ | ⟨rfl, rfl⟩ | ⟨rfl, rfl⟩ | ⟨rfl, rfl⟩ | ⟨rfl, rfl⟩
    · obtain ⟨l1, l2⟩ := R1.out
      rcases G0.out with ⟨hb, hp⟩ | ⟨hb, hp⟩
      · subst hb
        have HP := Lib.hid hp
        clear hp
        go_wp2
        go_round
        case rel => exact .inr (.inl ⟨rfl, congrArg _ (by have := HP.out; omega)⟩)
        case measure => simp [intOf]
      · subst hb
        have HP := Lib.hid hp
        clear hp
        go_wp2
        go_round
        case rel => exact .inr (.inl ⟨rfl, congrArg _ (by have := HP.out; omega)⟩)
        case measure => simp [intOf]
    · obtain ⟨l1, l2⟩ := R2.out
      obtain ⟨l3, l4⟩ := R1.out
      rcases G1.out with ⟨hb, hp⟩ | ⟨hb, hp⟩
      · subst hb
        have HP := Lib.hid hp
        clear hp
        go_wp2
        go_round
        case rel => exact .inr (.inr (.inl ⟨rfl, congrArg _ (by have := HP.out; omega)⟩))
        case measure => simp [intOf]
      · subst hb
        have HP := Lib.hid hp
        clear hp
        go_wp2
        go_round
        case rel => exact .inr (.inr (.inl ⟨rfl, congrArg _ (by have := HP.out; omega)⟩))
        case measure => simp [intOf]
    · obtain ⟨l1, l2⟩ := R3.out
      obtain ⟨l3, l4⟩ := R2.out
      rcases G2.out with ⟨hb, hp⟩ | ⟨hb, hp⟩
      · subst hb
        have HP := Lib.hid hp
        clear hp
        go_wp2
        go_round
        case rel => exact .inr (.inr (.inr (.inl ⟨rfl, congrArg _ (by have := HP.out; omega)⟩)))
        case measure => simp [intOf]
      · subst hb
        have HP := Lib.hid hp
        clear hp
        go_wp2
        go_round
        case rel => exact .inr (.inr (.inr (.inl ⟨rfl, congrArg _ (by have := HP.out; omega)⟩)))
        case measure => simp [intOf]
    · obtain ⟨l1, l2⟩ := R4.out
      obtain ⟨l3, l4⟩ := R3.out
      rcases G3.out with ⟨hb, hp⟩ | ⟨hb, hp⟩
      · subst hb
        have HP := Lib.hid hp
        clear hp
        go_wp2
        go_round
        case rel => exact .inr (.inr (.inr (.inr (.inl ⟨rfl, congrArg _ (by have := HP.out; omega)⟩))))
        case measure => simp [intOf]
      · subst hb
        have HP := Lib.hid hp
        clear hp
        go_wp2
        go_round
        case rel => exact .inr (.inr (.inr (.inr (.inl ⟨rfl, congrArg _ (by have := HP.out; omega)⟩))))
        case measure => simp [intOf]
    · obtain ⟨l1, l2⟩ := R5.out
      obtain ⟨l3, l4⟩ := R4.out
      rcases G4.out with ⟨hb, hp⟩ | ⟨hb, hp⟩
      · subst hb
        have HP := Lib.hid hp
        clear hp
        go_wp2
        go_round
        case rel => exact .inr (.inr (.inr (.inr (.inr (.inl ⟨rfl, congrArg _ (by have := HP.out; omega)⟩)))))
        case measure => simp [intOf]
      · subst hb
        have HP := Lib.hid hp
        clear hp
        go_wp2
        go_round
        case rel => exact .inr (.inr (.inr (.inr (.inr (.inl ⟨rfl, congrArg _ (by have := HP.out; omega)⟩)))))
        case measure => simp [intOf]
    · obtain ⟨l1, l2⟩ := R6.out
      obtain ⟨l3, l4⟩ := R5.out
      rcases G5.out with ⟨hb, hp⟩ | ⟨hb, hp⟩
      · subst hb
        have HP := Lib.hid hp
        clear hp
        go_wp2
        go_round
        case rel => exact .inr (.inr (.inr (.inr (.inr (.inr (.inl ⟨rfl, congrArg _ (by have := HP.out; omega)⟩))))))
        case measure => simp [intOf]
      · subst hb
        have HP := Lib.hid hp
        clear hp
        go_wp2
        go_round
        case rel => exact .inr (.inr (.inr (.inr (.inr (.inr (.inl ⟨rfl, congrArg _ (by have := HP.out; omega)⟩))))))
        case measure => simp [intOf]
    · obtain ⟨l1, l2⟩ := R7.out
      obtain ⟨l3, l4⟩ := R6.out
      rcases G6.out with ⟨hb, hp⟩ | ⟨hb, hp⟩
      · subst hb
        have HP := Lib.hid hp
        clear hp
        go_wp2
        go_round
        case rel => exact .inr (.inr (.inr (.inr (.inr (.inr (.inr (.inl ⟨rfl, congrArg _ (by have := HP.out; omega)⟩)))))))
        case measure => simp [intOf]
      · subst hb
        have HP := Lib.hid hp
        clear hp
        go_wp2
        go_round
        case rel => exact .inr (.inr (.inr (.inr (.inr (.inr (.inr (.inl ⟨rfl, congrArg _ (by have := HP.out; omega)⟩)))))))
        case measure => simp [intOf]
    · obtain ⟨l1, l2⟩ := R8.out
      obtain ⟨l3, l4⟩ := R7.out
      rcases G7.out with ⟨hb, hp⟩ | ⟨hb, hp⟩
      · subst hb
        have HP := Lib.hid hp
        clear hp
        go_wp2
        go_round
        case rel => exact .inr (.inr (.inr (.inr (.inr (.inr (.inr (.inr (.inl ⟨rfl, congrArg _ (by have := HP.out; omega)⟩))))))))
        case measure => simp [intOf]
      · subst hb
        have HP := Lib.hid hp
        clear hp
        go_wp2
        go_round
        case rel => exact .inr (.inr (.inr (.inr (.inr (.inr (.inr (.inr (.inl ⟨rfl, congrArg _ (by have := HP.out; omega)⟩))))))))
        case measure => simp [intOf]
    · obtain ⟨l1, l2⟩ := R9.out
      obtain ⟨l3, l4⟩ := R8.out
      rcases G8.out with ⟨hb, hp⟩ | ⟨hb, hp⟩
      · subst hb
        have HP := Lib.hid hp
        clear hp
        go_wp2
        go_round
        case rel => exact .inr (.inr (.inr (.inr (.inr (.inr (.inr (.inr (.inr (⟨rfl, congrArg _ (by have := HP.out; omega)⟩)))))))))
        case measure => simp [intOf]
      · subst hb
        have HP := Lib.hid hp
        clear hp
        go_wp2
        go_round
        case rel => exact .inr (.inr (.inr (.inr (.inr (.inr (.inr (.inr (.inr (⟨rfl, congrArg _ (by have := HP.out; omega)⟩)))))))))
        case measure => simp [intOf]
    · obtain ⟨l1, l2⟩ := R9.out
      have hex : (⟨#[b0, b1, b2, b3, b4, b5, b6, b7, b8, 43, 115]⟩ : ByteArray).extract 9 11 = ⟨#[43, 115]⟩ := rfl
      go_wp2_with (first
        | (refine wpList_insert_new 9 3 .string Tryd.underlying70 Tryd.underlying9 (by rfl) (by rfl) (by rfl) ckStr (by kernel_rfl) ?_)
        | (refine wpList_lookup_found 9 3 .string Tryd.underlying70 Tryd.underlying9 (by rfl) (MapIs.new _ _ _) (by rfl) (fun b => ckStr) (i := 1) (v := .int .i64 512) (by kernel_rfl) ?_))
      go_ret3
      exact ⟨rfl, bel1 _ _⟩

set_option maxHeartbeats 4000000 in
theorem parse_t (b0 b1 b2 b3 b4 b5 b6 b7 b8 : UInt8) (p0 p1 p2 p3 p4 p5 p6 p7 p8 p9 : Int) (w : World) (e0 : p0 = 0) (r0 : 0 ≤ p0 ∧ p0 ≤ 511) (r1 : 0 ≤ p1 ∧ p1 ≤ 511) (r2 : 0 ≤ p2 ∧ p2 ≤ 511) (r3 : 0 ≤ p3 ∧ p3 ≤ 511) (r4 : 0 ≤ p4 ∧ p4 ≤ 511) (r5 : 0 ≤ p5 ∧ p5 ≤ 511) (r6 : 0 ≤ p6 ∧ p6 ≤ 511) (r7 : 0 ≤ p7 ∧ p7 ≤ 511) (r8 : 0 ≤ p8 ∧ p8 ≤ 511) (r9 : 0 ≤ p9 ∧ p9 ≤ 511) (H0 : (b0 = 45 ∧ p0*2 = p1) ∨ (b0 = 114 ∧ p0*2 + 1 = p1)) (H1 : (b1 = 45 ∧ p1*2 = p2) ∨ (b1 = 119 ∧ p1*2 + 1 = p2)) (H2 : (b2 = 45 ∧ p2*2 = p3) ∨ (b2 = 120 ∧ p2*2 + 1 = p3)) (H3 : (b3 = 45 ∧ p3*2 = p4) ∨ (b3 = 114 ∧ p3*2 + 1 = p4)) (H4 : (b4 = 45 ∧ p4*2 = p5) ∨ (b4 = 119 ∧ p4*2 + 1 = p5)) (H5 : (b5 = 45 ∧ p5*2 = p6) ∨ (b5 = 120 ∧ p5*2 + 1 = p6)) (H6 : (b6 = 45 ∧ p6*2 = p7) ∨ (b6 = 114 ∧ p6*2 + 1 = p7)) (H7 : (b7 = 45 ∧ p7*2 = p8) ∨ (b7 = 119 ∧ p7*2 + 1 = p8)) (H8 : (b8 = 45 ∧ p8*2 = p9) ∨ (b8 = 120 ∧ p8*2 + 1 = p9)) :
    Calls Tryd.prog 21 #[.string ⟨#[b0, b1, b2, b3, b4, b5, b6, b7, b8, 43, 116]⟩] w fun e w' => e = .returned (.tuple #[.int .i64 (bits .or .i64 p9 1024), .int .i64 0, .int .i64 0]) ∧ Below w.heap.size w w' := by
  subst e0
  have G0 := Lib.hid H0
  have G1 := Lib.hid H1
  have G2 := Lib.hid H2
  have G3 := Lib.hid H3
  have G4 := Lib.hid H4
  have G5 := Lib.hid H5
  have G6 := Lib.hid H6
  have G7 := Lib.hid H7
  have G8 := Lib.hid H8
  have R1 := Lib.hid r1
  have R2 := Lib.hid r2
  have R3 := Lib.hid r3
  have R4 := Lib.hid r4
  have R5 := Lib.hid r5
  have R6 := Lib.hid r6
  have R7 := Lib.hid r7
  have R8 := Lib.hid r8
  have R9 := Lib.hid r9
  clear H0 H1 H2 H3 H4 H5 H6 H7 H8 r0 r1 r2 r3 r4 r5 r6 r7 r8 r9
  have hmm := @run_makeMap Tryd.prog
  go_enter Tryd.func21, Tryd.ntmps21
  go_wp2
  go_loop [5, 13] (fun x i => (i = .int .i64 0 ∧ x = .int .i64 0) ∨ (i = .int .i64 1 ∧ x = .int .i64 p1) ∨ (i = .int .i64 2 ∧ x = .int .i64 p2) ∨ (i = .int .i64 3 ∧ x = .int .i64 p3) ∨ (i = .int .i64 4 ∧ x = .int .i64 p4) ∨ (i = .int .i64 5 ∧ x = .int .i64 p5) ∨ (i = .int .i64 6 ∧ x = .int .i64 p6) ∨ (i = .int .i64 7 ∧ x = .int .i64 p7) ∨ (i = .int .i64 8 ∧ x = .int .i64 p8) ∨ (i = .int .i64 9 ∧ x = .int .i64 p9)) (fun _ i => 9 - (intOf i).toNat)
  case atStart => exact .inl ⟨rfl, rfl⟩
  case round =>
    rcases hrel with ⟨rfl, rfl⟩ | ⟨rfl, rfl⟩ | ⟨rfl, rfl⟩ | ⟨rfl, rfl⟩ | ⟨rfl, rfl⟩ | ⟨rfl, rfl⟩ | ⟨rfl, rfl⟩ | ⟨rfl, rfl⟩ | ⟨rfl, rfl⟩ | ⟨rfl, rfl⟩
    · obtain ⟨l1, l2⟩ := R1.out
      rcases G0.out with ⟨hb, hp⟩ | ⟨hb, hp⟩
      · subst hb
        have HP := Lib.hid hp
        clear hp
        go_wp2
        go_round
        case rel => exact .inr (.inl ⟨rfl, congrArg _ (by have := HP.out; omega)⟩)
        case measure => simp [intOf]
      · subst hb
        have HP := Lib.hid hp
        clear hp
        go_wp2
        go_round
        case rel => exact .inr (.inl ⟨rfl, congrArg _ (by have := HP.out; omega)⟩)
        case measure => simp [intOf]
    · obtain ⟨l1, l2⟩ := R2.out
      obtain ⟨l3, l4⟩ := R1.out
      rcases G1.out with ⟨hb, hp⟩ | ⟨hb, hp⟩
      · subst hb
        have HP := Lib.hid hp
        clear hp
        go_wp2
        go_round
        case rel => exact .inr (.inr (.inl ⟨rfl, congrArg _ (by have := HP.out; omega)⟩))
        case measure => simp [intOf]
      · subst hb
        have HP := Lib.hid hp
        clear hp
        go_wp2
        go_round
        case rel => exact .inr (.inr (.inl ⟨rfl, congrArg _ (by have := HP.out; omega)⟩))
        case measure => simp [intOf]
    · obtain ⟨l1, l2⟩ := R3.out
      obtain ⟨l3, l4⟩ := R2.out
      rcases G2.out with ⟨hb, hp⟩ | ⟨hb, hp⟩
      · subst hb
        have HP := Lib.hid hp
        clear hp
        go_wp2
        go_round
        case rel => exact .inr (.inr (.inr (.inl ⟨rfl, congrArg _ (by have := HP.out; omega)⟩)))
        case measure => simp [intOf]
      · subst hb
        have HP := Lib.hid hp
        clear hp
        go_wp2
        go_round
        case rel => exact .inr (.inr (.inr (.inl ⟨rfl, congrArg _ (by have := HP.out; omega)⟩)))
        case measure => simp [intOf]
    · obtain ⟨l1, l2⟩ := R4.out
      obtain ⟨l3, l4⟩ := R3.out
      rcases G3.out with ⟨hb, hp⟩ | ⟨hb, hp⟩
      · subst hb
        have HP := Lib.hid hp
        clear hp
        go_wp2
        go_round
        case rel => exact .inr (.inr (.inr (.inr (.inl ⟨rfl, congrArg _ (by have := HP.out; omega)⟩))))
        case measure => simp [intOf]
      · subst hb
        have HP := Lib.hid hp
        clear hp
        go_wp2
        go_round
        case rel => exact .inr (.inr (.inr (.inr (.inl ⟨rfl, congrArg _ (by have := HP.out; omega)⟩))))
        case measure => simp [intOf]
    · obtain ⟨l1, l2⟩ := R5.out
      obtain ⟨l3, l4⟩ := R4.out
      rcases G4.out with ⟨hb, hp⟩ | ⟨hb, hp⟩
      · subst hb
        have HP := Lib.hid hp
        clear hp
        go_wp2
        go_round
        case rel => exact .inr (.inr (.inr (.inr (.inr (.inl ⟨rfl, congrArg _ (by have := HP.out; omega)⟩)))))
        case measure => simp [intOf]
      · subst hb
        have HP := Lib.hid hp
        clear hp
        go_wp2
        go_round
        case rel => exact .inr (.inr (.inr (.inr (.inr (.inl ⟨rfl, congrArg _ (by have := HP.out; omega)⟩)))))
        case measure => simp [intOf]
    · obtain ⟨l1, l2⟩ := R6.out
      obtain ⟨l3, l4⟩ := R5.out
      rcases G5.out with ⟨hb, hp⟩ | ⟨hb, hp⟩
      · subst hb
        have HP := Lib.hid hp
        clear hp
        go_wp2
        go_round
        case rel => exact .inr (.inr (.inr (.inr (.inr (.inr (.inl ⟨rfl, congrArg _ (by have := HP.out; omega)⟩))))))
        case measure => simp [intOf]
      · subst hb
        have HP := Lib.hid hp
        clear hp
        go_wp2
        go_round
        case rel => exact .inr (.inr (.inr (.inr (.inr (.inr (.inl ⟨rfl, congrArg _ (by have := HP.out; omega)⟩))))))
        case measure => simp [intOf]
    · obtain ⟨l1, l2⟩ := R7.out
      obtain ⟨l3, l4⟩ := R6.out
      rcases G6.out with ⟨hb, hp⟩ | ⟨hb, hp⟩
      · subst hb
        have HP := Lib.hid hp
        clear hp
        go_wp2
        go_round
        case rel => exact .inr (.inr (.inr (.inr (.inr (.inr (.inr (.inl ⟨rfl, congrArg _ (by have := HP.out; omega)⟩)))))))
        case measure => simp [intOf]
      · subst hb
        have HP := Lib.hid hp
        clear hp
        go_wp2
        go_round
        case rel => exact .inr (.inr (.inr (.inr (.inr (.inr (.inr (.inl ⟨rfl, congrArg _ (by have := HP.out; omega)⟩)))))))
        case measure => simp [intOf]
    · obtain ⟨l1, l2⟩ := R8.out
      obtain ⟨l3, l4⟩ := R7.out
      rcases G7.out with ⟨hb, hp⟩ | ⟨hb, hp⟩
      · subst hb
        have HP := Lib.hid hp
        clear hp
        go_wp2
        go_round
        case rel => exact .inr (.inr (.inr (.inr (.inr (.inr (.inr (.inr (.inl ⟨rfl, congrArg _ (by have := HP.out; omega)⟩))))))))
        case measure => simp [intOf]
      · subst hb
        have HP := Lib.hid hp
        clear hp
        go_wp2
        go_round
        case rel => exact .inr (.inr (.inr (.inr (.inr (.inr (.inr (.inr (.inl ⟨rfl, congrArg _ (by have := HP.out; omega)⟩))))))))
        case measure => simp [intOf]
    · obtain ⟨l1, l2⟩ := R9.out
      obtain ⟨l3, l4⟩ := R8.out
      rcases G8.out with ⟨hb, hp⟩ | ⟨hb, hp⟩
      · subst hb
        have HP := Lib.hid hp
        clear hp
        go_wp2
        go_round
        case rel => exact .inr (.inr (.inr (.inr (.inr (.inr (.inr (.inr (.inr (⟨rfl, congrArg _ (by have := HP.out; omega)⟩)))))))))
        case measure => simp [intOf]
      · subst hb
        have HP := Lib.hid hp
        clear hp
        go_wp2
        go_round
        case rel => exact .inr (.inr (.inr (.inr (.inr (.inr (.inr (.inr (.inr (⟨rfl, congrArg _ (by have := HP.out; omega)⟩)))))))))
        case measure => simp [intOf]
    · obtain ⟨l1, l2⟩ := R9.out
      have hex : (⟨#[b0, b1, b2, b3, b4, b5, b6, b7, b8, 43, 116]⟩ : ByteArray).extract 9 11 = ⟨#[43, 116]⟩ := rfl
      go_wp2_with (first
        | (refine wpList_insert_new 9 3 .string Tryd.underlying70 Tryd.underlying9 (by rfl) (by rfl) (by rfl) ckStr (by kernel_rfl) ?_)
        | (refine wpList_lookup_found 9 3 .string Tryd.underlying70 Tryd.underlying9 (by rfl) (MapIs.new _ _ _) (by rfl) (fun b => ckStr) (i := 2) (v := .int .i64 1024) (by kernel_rfl) ?_))
      go_ret3
      exact ⟨rfl, bel1 _ _⟩

set_option maxHeartbeats 4000000 in
theorem parse_st (b0 b1 b2 b3 b4 b5 b6 b7 b8 : UInt8) (p0 p1 p2 p3 p4 p5 p6 p7 p8 p9 : Int) (w : World) (e0 : p0 = 0) (r0 : 0 ≤ p0 ∧ p0 ≤ 511) (r1 : 0 ≤ p1 ∧ p1 ≤ 511) (r2 : 0 ≤ p2 ∧ p2 ≤ 511) (r3 : 0 ≤ p3 ∧ p3 ≤ 511) (r4 : 0 ≤ p4 ∧ p4 ≤ 511) (r5 : 0 ≤ p5 ∧ p5 ≤ 511) (r6 : 0 ≤ p6 ∧ p6 ≤ 511) (r7 : 0 ≤ p7 ∧ p7 ≤ 511) (r8 : 0 ≤ p8 ∧ p8 ≤ 511) (r9 : 0 ≤ p9 ∧ p9 ≤ 511) (H0 : (b0 = 45 ∧ p0*2 = p1) ∨ (b0 = 114 ∧ p0*2 + 1 = p1)) (H1 : (b1 = 45 ∧ p1*2 = p2) ∨ (b1 = 119 ∧ p1*2 + 1 = p2)) (H2 : (b2 = 45 ∧ p2*2 = p3) ∨ (b2 = 120 ∧ p2*2 + 1 = p3)) (H3 : (b3 = 45 ∧ p3*2 = p4) ∨ (b3 = 114 ∧ p3*2 + 1 = p4)) (H4 : (b4 = 45 ∧ p4*2 = p5) ∨ (b4 = 119 ∧ p4*2 + 1 = p5)) (H5 : (b5 = 45 ∧ p5*2 = p6) ∨ (b5 = 120 ∧ p5*2 + 1 = p6)) (H6 : (b6 = 45 ∧ p6*2 = p7) ∨ (b6 = 114 ∧ p6*2 + 1 = p7)) (H7 : (b7 = 45 ∧ p7*2 = p8) ∨ (b7 = 119 ∧ p7*2 + 1 = p8)) (H8 : (b8 = 45 ∧ p8*2 = p9) ∨ (b8 = 120 ∧ p8*2 + 1 = p9)) :
    Calls Tryd.prog 21 #[.string ⟨#[b0, b1, b2, b3, b4, b5, b6, b7, b8, 43, 115, 116]⟩] w fun e w' => e = .returned (.tuple #[.int .i64 (bits .or .i64 p9 1536), .int .i64 0, .int .i64 0]) ∧ Below w.heap.size w w' := by
  subst e0
  have G0 := Lib.hid H0
  have G1 := Lib.hid H1
  have G2 := Lib.hid H2
  have G3 := Lib.hid H3
  have G4 := Lib.hid H4
  have G5 := Lib.hid H5
  have G6 := Lib.hid H6
  have G7 := Lib.hid H7
  have G8 := Lib.hid H8
  have R1 := Lib.hid r1
  have R2 := Lib.hid r2
  have R3 := Lib.hid r3
  have R4 := Lib.hid r4
  have R5 := Lib.hid r5
  have R6 := Lib.hid r6
  have R7 := Lib.hid r7
  have R8 := Lib.hid r8
  have R9 := Lib.hid r9
  clear H0 H1 H2 H3 H4 H5 H6 H7 H8 r0 r1 r2 r3 r4 r5 r6 r7 r8 r9
  have hmm := @run_makeMap Tryd.prog
  go_enter Tryd.func21, Tryd.ntmps21
  go_wp2
  go_loop [5, 13] (fun x i => (i = .int .i64 0 ∧ x = .int .i64 0) ∨ (i = .int .i64 1 ∧ x = .int .i64 p1) ∨ (i = .int .i64 2 ∧ x = .int .i64 p2) ∨ (i = .int .i64 3 ∧ x = .int .i64 p3) ∨ (i = .int .i64 4 ∧ x = .int .i64 p4) ∨ (i = .int .i64 5 ∧ x = .int .i64 p5) ∨ (i = .int .i64 6 ∧ x = .int .i64 p6) ∨ (i = .int .i64 7 ∧ x = .int .i64 p7) ∨ (i = .int .i64 8 ∧ x = .int .i64 p8) ∨ (i = .int .i64 9 ∧ x = .int .i64 p9)) (fun _ i => 9 - (intOf i).toNat)
  case atStart => exact .inl ⟨rfl, rfl⟩
  case round =>
    rcases hrel with ⟨rfl, rfl⟩ | ⟨rfl, rfl⟩ | ⟨rfl, rfl⟩ | ⟨rfl, rfl⟩ | ⟨rfl, rfl⟩ | ⟨rfl, rfl⟩ | ⟨rfl, rfl⟩ | ⟨rfl, rfl⟩ | ⟨rfl, rfl⟩ | ⟨rfl, rfl⟩
    · obtain ⟨l1, l2⟩ := R1.out
      rcases G0.out with ⟨hb, hp⟩ | ⟨hb, hp⟩
      · subst hb
        have HP := Lib.hid hp
        clear hp
        go_wp2
        go_round
        case rel => exact .inr (.inl ⟨rfl, congrArg _ (by have := HP.out; omega)⟩)
        case measure => simp [intOf]
      · subst hb
        have HP := Lib.hid hp
        clear hp
        go_wp2
        go_round
        case rel => exact .inr (.inl ⟨rfl, congrArg _ (by have := HP.out; omega)⟩)
        case measure => simp [intOf]
    · obtain ⟨l1, l2⟩ := R2.out
      obtain ⟨l3, l4⟩ := R1.out
      rcases G1.out with ⟨hb, hp⟩ | ⟨hb, hp⟩
      · subst hb
        have HP := Lib.hid hp
        clear hp
        go_wp2
        go_round
        case rel => exact .inr (.inr (.inl ⟨rfl, congrArg _ (by have := HP.out; omega)⟩))
        case measure => simp [intOf]
      · subst hb
        have HP := Lib.hid hp
        clear hp
        go_wp2
        go_round
        case rel => exact .inr (.inr (.inl ⟨rfl, congrArg _ (by have := HP.out; omega)⟩))
        case measure => simp [intOf]
    · obtain ⟨l1, l2⟩ := R3.out
      obtain ⟨l3, l4⟩ := R2.out
      rcases G2.out with ⟨hb, hp⟩ | ⟨hb, hp⟩
      · subst hb
        have HP := Lib.hid hp
        clear hp
        go_wp2
        go_round
        case rel => exact .inr (.inr (.inr (.inl ⟨rfl, congrArg _ (by have := HP.out; omega)⟩)))
        case measure => simp [intOf]
      · subst hb
        have HP := Lib.hid hp
        clear hp
        go_wp2
        go_round
        case rel => exact .inr (.inr (.inr (.inl ⟨rfl, congrArg _ (by have := HP.out; omega)⟩)))
        case measure => simp [intOf]
    · obtain ⟨l1, l2⟩ := R4.out
      obtain ⟨l3, l4⟩ := R3.out
      rcases G3.out with ⟨hb, hp⟩ | ⟨hb, hp⟩
      · subst hb
        have HP := Lib.hid hp
        clear hp
        go_wp2
        go_round
        case rel => exact .inr (.inr (.inr (.inr (.inl ⟨rfl, congrArg _ (by have := HP.out; omega)⟩))))
        case measure => simp [intOf]
      · subst hb
        have HP := Lib.hid hp
        clear hp
        go_wp2
        go_round
        case rel => exact .inr (.inr (.inr (.inr (.inl ⟨rfl, congrArg _ (by have := HP.out; omega)⟩))))
        case measure => simp [intOf]
    · obtain ⟨l1, l2⟩ := R5.out
      obtain ⟨l3, l4⟩ := R4.out
      rcases G4.out with ⟨hb, hp⟩ | ⟨hb, hp⟩
      · subst hb
        have HP := Lib.hid hp
        clear hp
        go_wp2
        go_round
        case rel => exact .inr (.inr (.inr (.inr (.inr (.inl ⟨rfl, congrArg _ (by have := HP.out; omega)⟩)))))
        case measure => simp [intOf]
      · subst hb
        have HP := Lib.hid hp
        clear hp
        go_wp2
        go_round
        case rel => exact .inr (.inr (.inr (.inr (.inr (.inl ⟨rfl, congrArg _ (by have := HP.out; omega)⟩)))))
        case measure => simp [intOf]
    · obtain ⟨l1, l2⟩ := R6.out
      obtain ⟨l3, l4⟩ := R5.out
      rcases G5.out with ⟨hb, hp⟩ | ⟨hb, hp⟩
      · subst hb
        have HP := Lib.hid hp
        clear hp
        go_wp2
        go_round
        case rel => exact .inr (.inr (.inr (.inr (.inr (.inr (.inl ⟨rfl, congrArg _ (by have := HP.out; omega)⟩))))))
        case measure => simp [intOf]
      · subst hb
        have HP := Lib.hid hp
        clear hp
        go_wp2
        go_round
        case rel => exact .inr (.inr (.inr (.inr (.inr (.inr (.inl ⟨rfl, congrArg _ (by have := HP.out; omega)⟩))))))
        case measure => simp [intOf]
    · obtain ⟨l1, l2⟩ := R7.out
      obtain ⟨l3, l4⟩ := R6.out
      rcases G6.out with ⟨hb, hp⟩ | ⟨hb, hp⟩
      · subst hb
        have HP := Lib.hid hp
        clear hp
        go_wp2
        go_round
        case rel => exact .inr (.inr (.inr (.inr (.inr (.inr (.inr (.inl ⟨rfl, congrArg _ (by have := HP.out; omega)⟩)))))))
        case measure => simp [intOf]
      · subst hb
        have HP := Lib.hid hp
        clear hp
        go_wp2
        go_round
        case rel => exact .inr (.inr (.inr (.inr (.inr (.inr (.inr (.inl ⟨rfl, congrArg _ (by have := HP.out; omega)⟩)))))))
        case measure => simp [intOf]
    · obtain ⟨l1, l2⟩ := R8.out
      obtain ⟨l3, l4⟩ := R7.out
      rcases G7.out with ⟨hb, hp⟩ | ⟨hb, hp⟩
      · subst hb
        have HP := Lib.hid hp
        clear hp
        go_wp2
        go_round
        case rel => exact .inr (.inr (.inr (.inr (.inr (.inr (.inr (.inr (.inl ⟨rfl, congrArg _ (by have := HP.out; omega)⟩))))))))
        case measure => simp [intOf]
      · subst hb
        have HP := Lib.hid hp
        clear hp
        go_wp2
        go_round
        case rel => exact .inr (.inr (.inr (.inr (.inr (.inr (.inr (.inr (.inl ⟨rfl, congrArg _ (by have := HP.out; omega)⟩))))))))
        case measure => simp [intOf]
    · obtain ⟨l1, l2⟩ := R9.out
      obtain ⟨l3, l4⟩ := R8.out
      rcases G8.out with ⟨hb, hp⟩ | ⟨hb, hp⟩
      · subst hb
        have HP := Lib.hid hp
        clear hp
        go_wp2
        go_round
        case rel => exact .inr (.inr (.inr (.inr (.inr (.inr (.inr (.inr (.inr (⟨rfl, congrArg _ (by have := HP.out; omega)⟩)))))))))
        case measure => simp [intOf]
      · subst hb
        have HP := Lib.hid hp
        clear hp
        go_wp2
        go_round
        case rel => exact .inr (.inr (.inr (.inr (.inr (.inr (.inr (.inr (.inr (⟨rfl, congrArg _ (by have := HP.out; omega)⟩)))))))))
        case measure => simp [intOf]
    · obtain ⟨l1, l2⟩ := R9.out
      have hex : (⟨#[b0, b1, b2, b3, b4, b5, b6, b7, b8, 43, 115, 116]⟩ : ByteArray).extract 9 12 = ⟨#[43, 115, 116]⟩ := rfl
      go_wp2_with (first
        | (refine wpList_insert_new 9 3 .string Tryd.underlying70 Tryd.underlying9 (by rfl) (by rfl) (by rfl) ckStr (by kernel_rfl) ?_)
        | (refine wpList_lookup_found 9 3 .string Tryd.underlying70 Tryd.underlying9 (by rfl) (MapIs.new _ _ _) (by rfl) (fun b => ckStr) (i := 3) (v := .int .i64 1536) (by kernel_rfl) ?_))
      go_ret3
      exact ⟨rfl, bel1 _ _⟩

/-- The number that the first k letters of a text give. -/
def pv (m : Int) (k : Nat) : Int := m % 512 / 2 ^ (9 - k)
def stepOk (m : Int) (k : Nat) : Bool := (tb m k == 45 && pv m k * 2 == pv m (k + 1)) || (tb m k == baseB k && pv m k * 2 + 1 == pv m (k + 1))
theorem parse_all : ∀ m : Fin 2048, ((List.range 9).all fun k => stepOk (m : Nat) k) = true ∧ ((List.range 10).all fun k => decide (0 ≤ pv (m : Nat) k ∧ pv (m : Nat) k ≤ 511)) = true ∧ (pv (m : Nat) 0 == 0) = true := by decide +kernel
theorem suffix_all : ∀ m : Fin 2048, ((textL (m : Nat) == nine (m : Nat) && bits .or .i64 (pv (m : Nat) 9) 0 == (m : Nat)) || (textL (m : Nat) == nine (m : Nat) ++ [43, 115] && bits .or .i64 (pv (m : Nat) 9) 512 == (m : Nat)) || (textL (m : Nat) == nine (m : Nat) ++ [43, 116] && bits .or .i64 (pv (m : Nat) 9) 1024 == (m : Nat)) || (textL (m : Nat) == nine (m : Nat) ++ [43, 115, 116] && bits .or .i64 (pv (m : Nat) 9) 1536 == (m : Nat))) = true := by decide +kernel
theorem step_of {m : Int} {k : Nat} (h : stepOk m k = true) : (tb m k = 45 ∧ pv m k * 2 = pv m (k + 1)) ∨ (tb m k = baseB k ∧ pv m k * 2 + 1 = pv m (k + 1)) := by
  simpa [stepOk] using h

theorem parse_calls (m : Int) (w : World) (hv : validB m = true) :
    Calls Tryd.prog 21 #[.string ⟨(textL m).toArray⟩] w fun e w' => e = .returned (.tuple #[.int .i64 m, .int .i64 0, .int .i64 0]) ∧ Below w.heap.size w w' := by
  obtain ⟨h0, h1⟩ := validB_iff.1 hv
  obtain ⟨j, rfl⟩ := Int.eq_ofNat_of_zero_le h0
  obtain ⟨a1, a2, a3⟩ := parse_all ⟨j, by omega⟩
  have a4 := suffix_all ⟨j, by omega⟩
  rw [List.all_eq_true] at a1 a2
  have st : ∀ k, k < 9 → (tb (j : Int) k = 45 ∧ pv (j : Int) k * 2 = pv (j : Int) (k + 1)) ∨ (tb (j : Int) k = baseB k ∧ pv (j : Int) k * 2 + 1 = pv (j : Int) (k + 1)) := fun k hk => step_of (a1 k (List.mem_range.2 hk))
  have rg : ∀ k, k < 10 → 0 ≤ pv (j : Int) k ∧ pv (j : Int) k ≤ 511 := fun k hk => of_decide_eq_true (a2 k (List.mem_range.2 hk))
  have e0 : pv (j : Int) 0 = 0 := by simpa using a3
  simp only [Bool.or_eq_true, Bool.and_eq_true, beq_iff_eq] at a4
  rcases a4 with ((⟨ht, hm⟩ | ⟨ht, hm⟩) | ⟨ht, hm⟩) | ⟨ht, hm⟩
  · rw [ht]
    have h := parse_9 (tb (j : Int) 0) (tb (j : Int) 1) (tb (j : Int) 2) (tb (j : Int) 3) (tb (j : Int) 4) (tb (j : Int) 5) (tb (j : Int) 6) (tb (j : Int) 7) (tb (j : Int) 8) (pv (j : Int) 0) (pv (j : Int) 1) (pv (j : Int) 2) (pv (j : Int) 3) (pv (j : Int) 4) (pv (j : Int) 5) (pv (j : Int) 6) (pv (j : Int) 7) (pv (j : Int) 8) (pv (j : Int) 9) w e0 (rg 0 (by omega)) (rg 1 (by omega)) (rg 2 (by omega)) (rg 3 (by omega)) (rg 4 (by omega)) (rg 5 (by omega)) (rg 6 (by omega)) (rg 7 (by omega)) (rg 8 (by omega)) (rg 9 (by omega)) (st 0 (by omega)) (st 1 (by omega)) (st 2 (by omega)) (st 3 (by omega)) (st 4 (by omega)) (st 5 (by omega)) (st 6 (by omega)) (st 7 (by omega)) (st 8 (by omega))
    rw [hm] at h
    exact h
  · rw [ht]
    have h := parse_s (tb (j : Int) 0) (tb (j : Int) 1) (tb (j : Int) 2) (tb (j : Int) 3) (tb (j : Int) 4) (tb (j : Int) 5) (tb (j : Int) 6) (tb (j : Int) 7) (tb (j : Int) 8) (pv (j : Int) 0) (pv (j : Int) 1) (pv (j : Int) 2) (pv (j : Int) 3) (pv (j : Int) 4) (pv (j : Int) 5) (pv (j : Int) 6) (pv (j : Int) 7) (pv (j : Int) 8) (pv (j : Int) 9) w e0 (rg 0 (by omega)) (rg 1 (by omega)) (rg 2 (by omega)) (rg 3 (by omega)) (rg 4 (by omega)) (rg 5 (by omega)) (rg 6 (by omega)) (rg 7 (by omega)) (rg 8 (by omega)) (rg 9 (by omega)) (st 0 (by omega)) (st 1 (by omega)) (st 2 (by omega)) (st 3 (by omega)) (st 4 (by omega)) (st 5 (by omega)) (st 6 (by omega)) (st 7 (by omega)) (st 8 (by omega))
    rw [hm] at h
    exact h
  · rw [ht]
    have h := parse_t (tb (j : Int) 0) (tb (j : Int) 1) (tb (j : Int) 2) (tb (j : Int) 3) (tb (j : Int) 4) (tb (j : Int) 5) (tb (j : Int) 6) (tb (j : Int) 7) (tb (j : Int) 8) (pv (j : Int) 0) (pv (j : Int) 1) (pv (j : Int) 2) (pv (j : Int) 3) (pv (j : Int) 4) (pv (j : Int) 5) (pv (j : Int) 6) (pv (j : Int) 7) (pv (j : Int) 8) (pv (j : Int) 9) w e0 (rg 0 (by omega)) (rg 1 (by omega)) (rg 2 (by omega)) (rg 3 (by omega)) (rg 4 (by omega)) (rg 5 (by omega)) (rg 6 (by omega)) (rg 7 (by omega)) (rg 8 (by omega)) (rg 9 (by omega)) (st 0 (by omega)) (st 1 (by omega)) (st 2 (by omega)) (st 3 (by omega)) (st 4 (by omega)) (st 5 (by omega)) (st 6 (by omega)) (st 7 (by omega)) (st 8 (by omega))
    rw [hm] at h
    exact h
  · rw [ht]
    have h := parse_st (tb (j : Int) 0) (tb (j : Int) 1) (tb (j : Int) 2) (tb (j : Int) 3) (tb (j : Int) 4) (tb (j : Int) 5) (tb (j : Int) 6) (tb (j : Int) 7) (tb (j : Int) 8) (pv (j : Int) 0) (pv (j : Int) 1) (pv (j : Int) 2) (pv (j : Int) 3) (pv (j : Int) 4) (pv (j : Int) 5) (pv (j : Int) 6) (pv (j : Int) 7) (pv (j : Int) 8) (pv (j : Int) 9) w e0 (rg 0 (by omega)) (rg 1 (by omega)) (rg 2 (by omega)) (rg 3 (by omega)) (rg 4 (by omega)) (rg 5 (by omega)) (rg 6 (by omega)) (rg 7 (by omega)) (rg 8 (by omega)) (rg 9 (by omega)) (st 0 (by omega)) (st 1 (by omega)) (st 2 (by omega)) (st 3 (by omega)) (st 4 (by omega)) (st 5 (by omega)) (st 6 (by omega)) (st 7 (by omega)) (st 8 (by omega))
    rw [hm] at h
    exact h

end Go.Proofs.YtkjmmpdmbdimoaaDoor
