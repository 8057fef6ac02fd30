/- join and with at the empty tree, at the example of the chapter. -/
import Derived.Test.YtapkboadkbnjaaaGreatDoorW2
namespace Go.Proofs.YtapkboadkbnjaaaGreatDoor
open Go.RowKit Go.Own

/-- The tree of the example. -/
abbrev oneT : T := .node .leaf clockN ⟨#[97]⟩ .leaf 1 1 1
def JoinPost (w : World) (e : Ending) (w' : World) : Prop := ∃ k, e = .returned (.pointer (some ⟨k, 0, none⟩)) ∧ IsT w'.heap.size w' (some ⟨k, 0, none⟩) oneT ∧ Below w.heap.size w w'
abbrev clockV : Value := .agg #[.int .i64 15, .string ⟨#[]⟩, .int .i64 0, .int .i64 0, .string ⟨#[]⟩]
abbrev clockC : List Value := [.int .i64 15, .string ⟨#[]⟩, .int .i64 0, .int .i64 0, .string ⟨#[]⟩]

set_option maxHeartbeats 2000000 in
theorem join_one (w : World) : Calls Tryz.prog 108 #[.pointer none, clockV, .string ⟨#[97]⟩, .pointer none] w (JoinPost w) := by
  have HB := Lib.hid (bel1 w (.cells #[.int .i64 15, .string ⟨#[]⟩, .int .i64 0, .int .i64 0, .string ⟨#[]⟩] 34))
  have B := Blk.new w clockC 34
  have HK := Lib.hid B
  clear B
  have c1 := fun w => tall_calls none .leaf 0 w rfl
  have c2 := fun w => many_calls none .leaf 0 w rfl
  have c3 := fun w => total_calls none .leaf 0 w rfl
  simp only [T.tall, T.many, T.total] at c1 c2 c3
  have C1 := Lib.hid c1
  have C2 := Lib.hid c2
  have C3 := Lib.hid c3
  clear c1 c2 c3
  have hwr : IntKind.i64.wrap 1 = 1 := rfl
  go_enter Tryz.func108, Tryz.ntmps108
  go_wp2_with fail
  obtain ⟨w1, hw1⟩ : ∃ w1, w1 = w.alloc (.cells #[.int .i64 15, .string ⟨#[]⟩, .int .i64 0, .int .i64 0, .string ⟨#[]⟩] 34) := ⟨_, rfl⟩
  rw [show (Obj.cells clockC.toArray 34) = .cells #[.int .i64 15, .string ⟨#[]⟩, .int .i64 0, .int .i64 0, .string ⟨#[]⟩] 34 from rfl] at HK
  rw [← hw1] at HB HK ⊢
  clear hw1
  have q0 : w1.cell? ⟨w.heap.size, 0, none⟩ = some (.int .i64 15) := HK.out.cell 0 rfl
  have q1 : w1.cell? ⟨w.heap.size, 1, none⟩ = some (.string ⟨#[]⟩) := HK.out.cell 1 rfl
  have q2 : w1.cell? ⟨w.heap.size, 2, none⟩ = some (.int .i64 0) := HK.out.cell 2 rfl
  have q3 : w1.cell? ⟨w.heap.size, 3, none⟩ = some (.int .i64 0) := HK.out.cell 3 rfl
  have q4 : w1.cell? ⟨w.heap.size, 4, none⟩ = some (.string ⟨#[]⟩) := HK.out.cell 4 rfl
  go_region_held3 (fun w' => w'.cell? ⟨w.heap.size, 0, none⟩ = some (.int .i64 15) ∧ w'.cell? ⟨w.heap.size, 1, none⟩ = some (.string ⟨#[]⟩) ∧ w'.cell? ⟨w.heap.size, 2, none⟩ = some (.int .i64 0) ∧ w'.cell? ⟨w.heap.size, 3, none⟩ = some (.int .i64 0) ∧ w'.cell? ⟨w.heap.size, 4, none⟩ = some (.string ⟨#[]⟩)) (first | (refine ⟨?_, ?_, ?_, ?_, ?_⟩ <;> (first | (with_reducible assumption))) | go_keep)
    ((first
      | (go_at_call 138; (with_reducible refine (C1.out _).mono ?_); rintro e w7 ⟨rfl, rfl⟩)
      | (go_at_call 66; (with_reducible refine (C2.out _).mono ?_); rintro e w7 ⟨rfl, rfl⟩)
      | (go_at_call 67; (with_reducible refine (C3.out _).mono ?_); rintro e w7 ⟨rfl, rfl⟩)))
  all_goals go_wp2
  all_goals go_ret
  all_goals exact ⟨w1.heap.size, rfl, ⟨w1.heap.size, none, none, rfl, by show w1.heap.size < (w1.alloc _).heap.size; rw [World.size_alloc]; omega, (Blk.new w1 (nodeC clockN ⟨#[97]⟩ none none 1 1 1) 89).drew, rfl, rfl⟩, (HB.out.alloc HB.out.size (.cells #[.int .i64 15, .string ⟨#[]⟩, .int .i64 0, .int .i64 0, .string ⟨#[]⟩, .string ⟨#[97]⟩, .pointer none, .pointer none, .int .i64 1, .int .i64 1, .int .i64 1] 89)).trans (qm_drew _ _)⟩
end Go.Proofs.YtapkboadkbnjaaaGreatDoor
