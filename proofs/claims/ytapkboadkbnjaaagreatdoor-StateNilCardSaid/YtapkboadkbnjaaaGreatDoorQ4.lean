/- Without at the example's state. -/
import Derived.Test.YtapkboadkbnjaaaGreatDoorQ3
namespace Go.Proofs.YtapkboadkbnjaaaGreatDoor
open Go.RowKit Go.Own

set_option maxHeartbeats 2000000 in
theorem without_one (k : Nat) (w : World) (ht : IsT w.heap.size w (some ⟨k, 0, none⟩) oneT) : Calls Tryz.prog 65 #[.pointer (some ⟨k, 0, none⟩), clockV] w fun e w' => e = .returned (.pointer none) ∧ Below w.heap.size w w' := by
  have X := bel1 w (.cells #[.int .i64 15, .string ⟨#[]⟩, .int .i64 0, .int .i64 0, .string ⟨#[]⟩] 34)
  obtain ⟨k', pl, pr, hp, hk, hb, rfl, rfl⟩ := ht
  obtain rfl : k = k' := by simpa using hp
  have HG : Hid (G1 w w.heap.size k (w.alloc (.cells #[.int .i64 15, .string ⟨#[]⟩, .int .i64 0, .int .i64 0, .string ⟨#[]⟩] 34))) := ⟨Blk.new w clockC 34, hb.alloc _, X⟩
  clear X hb hk hp
  go_enter Tryz.func65, Tryz.ntmps65
  go_wp2_with fail
  obtain ⟨w2, hw2⟩ : ∃ w2, w2 = w.alloc (.cells #[.int .i64 15, .string ⟨#[]⟩, .int .i64 0, .int .i64 0, .string ⟨#[]⟩] 34) := ⟨_, rfl⟩
  rw [← hw2] at HG ⊢
  clear hw2
  have p0 : w2.cell? ⟨w.heap.size, 0, none⟩ = some (.int .i64 15) := HG.out.box.cell 0 rfl
  have p1 : w2.cell? ⟨w.heap.size, 1, none⟩ = some (.string ⟨#[]⟩) := HG.out.box.cell 1 rfl
  have p2 : w2.cell? ⟨w.heap.size, 2, none⟩ = some (.int .i64 0) := HG.out.box.cell 2 rfl
  have p3 : w2.cell? ⟨w.heap.size, 3, none⟩ = some (.int .i64 0) := HG.out.box.cell 3 rfl
  have p4 : w2.cell? ⟨w.heap.size, 4, none⟩ = some (.string ⟨#[]⟩) := HG.out.box.cell 4 rfl
  have r0 : w2.cell? ⟨k, 0, none⟩ = some (.int .i64 15) := HG.out.nd.cell 0 rfl
  have r1 : w2.cell? ⟨k, 1, none⟩ = some (.string ⟨#[]⟩) := HG.out.nd.cell 1 rfl
  have r2 : w2.cell? ⟨k, 2, none⟩ = some (.int .i64 0) := HG.out.nd.cell 2 rfl
  have r3 : w2.cell? ⟨k, 3, none⟩ = some (.int .i64 0) := HG.out.nd.cell 3 rfl
  have r4 : w2.cell? ⟨k, 4, none⟩ = some (.string ⟨#[]⟩) := HG.out.nd.cell 4 rfl
  go_region_held3 (fun w' => w'.cell? ⟨w.heap.size, 0, none⟩ = some (.int .i64 15) ∧ w'.cell? ⟨w.heap.size, 1, none⟩ = some (.string ⟨#[]⟩) ∧ w'.cell? ⟨w.heap.size, 2, none⟩ = some (.int .i64 0) ∧ w'.cell? ⟨w.heap.size, 3, none⟩ = some (.int .i64 0) ∧ w'.cell? ⟨w.heap.size, 4, none⟩ = some (.string ⟨#[]⟩) ∧ w'.cell? ⟨k, 0, none⟩ = some (.int .i64 15) ∧ w'.cell? ⟨k, 1, none⟩ = some (.string ⟨#[]⟩) ∧ w'.cell? ⟨k, 2, none⟩ = some (.int .i64 0) ∧ w'.cell? ⟨k, 3, none⟩ = some (.int .i64 0) ∧ w'.cell? ⟨k, 4, none⟩ = some (.string ⟨#[]⟩)) (first | (refine ⟨?_, ?_, ?_, ?_, ?_, ?_, ?_, ?_, ?_, ?_⟩ <;> (first | (with_reducible assumption))) | go_keep)
    ((go_at_call 44; (with_reducible refine (compare_clockV _).mono ?_); rintro e w7 ⟨rfl, hb⟩; have HR := Lib.hid (HG.out.drew.later hb); have p0 : w7.cell? ⟨w.heap.size, 0, none⟩ = some (.int .i64 15) := HR.out.box.cell 0 rfl; have p1 : w7.cell? ⟨w.heap.size, 1, none⟩ = some (.string ⟨#[]⟩) := HR.out.box.cell 1 rfl; have p2 : w7.cell? ⟨w.heap.size, 2, none⟩ = some (.int .i64 0) := HR.out.box.cell 2 rfl; have p3 : w7.cell? ⟨w.heap.size, 3, none⟩ = some (.int .i64 0) := HR.out.box.cell 3 rfl; have p4 : w7.cell? ⟨w.heap.size, 4, none⟩ = some (.string ⟨#[]⟩) := HR.out.box.cell 4 rfl; have r0 : w7.cell? ⟨k, 0, none⟩ = some (.int .i64 15) := HR.out.nd.cell 0 rfl; have r1 : w7.cell? ⟨k, 1, none⟩ = some (.string ⟨#[]⟩) := HR.out.nd.cell 1 rfl; have r2 : w7.cell? ⟨k, 2, none⟩ = some (.int .i64 0) := HR.out.nd.cell 2 rfl; have r3 : w7.cell? ⟨k, 3, none⟩ = some (.int .i64 0) := HR.out.nd.cell 3 rfl; have r4 : w7.cell? ⟨k, 4, none⟩ = some (.string ⟨#[]⟩) := HR.out.nd.cell 4 rfl; have r6 : w7.cell? ⟨k, 6, none⟩ = some (.pointer none) := HR.out.nd.cell 6 rfl; have r7 : w7.cell? ⟨k, 7, none⟩ = some (.pointer none) := HR.out.nd.cell 7 rfl; clear hb))
  go_wp2
  go_ret
  exact ⟨rfl, HR.out.bel⟩

/-- The example's state in memory, with the box of a name. -/
structure WO (w0 : World) (X k r : Nat) (w : World) : Prop where
  box : Blk w X clockC 34
  st : Blk w k [.pointer (some ⟨r, 0, none⟩)] 95
  tr : IsT w.heap.size w (some ⟨r, 0, none⟩) oneT
  bel : Below w0.heap.size w0 w
theorem WO.later {w0 w w' : World} {X k r : Nat} (h : WO w0 X k r w) (hb : Below w.heap.size w w') : WO w0 X k r w' :=
  ⟨h.box.below hb h.box.lt, h.st.below hb h.st.lt, h.tr.later hb, bel_then h.bel h.bel.size hb⟩
theorem WO.drew {w0 w : World} {X k r : Nat} (h : WO w0 X k r w) : WO w0 X k r w.drew := ⟨h.box.drew, h.st.drew, h.tr.below (qm_drew _ _), h.bel.trans (qm_drew _ _)⟩
theorem WO.isS {w0 w : World} {X k r : Nat} (h : WO w0 X k r w) : IsS w.heap.size w (some ⟨k, 0, none⟩) (some oneT) := ⟨k, some ⟨r, 0, none⟩, rfl, h.st.lt, h.st, h.tr⟩
def WoPost (w : World) (e : Ending) (w' : World) : Prop := ∃ k, e = .returned (.tuple #[.pointer (some ⟨k, 0, none⟩), .int .i64 0]) ∧ IsS w'.heap.size w' (some ⟨k, 0, none⟩) (some .leaf) ∧ Below w.heap.size w w'

set_option maxHeartbeats 2000000 in
theorem without_state (p : Option Addr) (w : World) (hs : IsS w.heap.size w p (some oneT)) : Calls Tryz.prog 33 #[.pointer p, clockV] w (WoPost w) := by
  obtain ⟨k, r0, rfl, hk, hb, ht⟩ := hs
  have ht0 := ht
  obtain ⟨r, pl, pr, rfl, -, -, -, -⟩ := ht
  have X := bel1 w (.cells #[.int .i64 15, .string ⟨#[]⟩, .int .i64 0, .int .i64 0, .string ⟨#[]⟩] 34)
  have HW : Hid (WO w w.heap.size k r (w.alloc (.cells #[.int .i64 15, .string ⟨#[]⟩, .int .i64 0, .int .i64 0, .string ⟨#[]⟩] 34))) := ⟨Blk.new w clockC 34, hb.alloc _, ht0.later X, X⟩
  clear X hb hk ht0
  go_enter Tryz.func33, Tryz.ntmps33
  go_upto_region 8 with (first
    | (go_at_call 15; (with_reducible refine (get_one _ _ HW.out.isS).mono ?_); rintro e w1 ⟨rfl, hb⟩; have HW := Lib.hid (HW.out.later hb); have p0 : w1.cell? ⟨w.heap.size, 0, none⟩ = some (.int .i64 15) := HW.out.box.cell 0 rfl; have p1 : w1.cell? ⟨w.heap.size, 1, none⟩ = some (.string ⟨#[]⟩) := HW.out.box.cell 1 rfl; have p2 : w1.cell? ⟨w.heap.size, 2, none⟩ = some (.int .i64 0) := HW.out.box.cell 2 rfl; have p3 : w1.cell? ⟨w.heap.size, 3, none⟩ = some (.int .i64 0) := HW.out.box.cell 3 rfl; have p4 : w1.cell? ⟨w.heap.size, 4, none⟩ = some (.string ⟨#[]⟩) := HW.out.box.cell 4 rfl; have p5 := HW.out.st.cell 0 rfl; clear hb)
    | (go_at_call 31; (with_reducible refine (check_clockV _).mono ?_); rintro e w2 ⟨rfl, hb⟩; have HW := Lib.hid (HW.out.later hb); have p0 : w2.cell? ⟨w.heap.size, 0, none⟩ = some (.int .i64 15) := HW.out.box.cell 0 rfl; have p1 : w2.cell? ⟨w.heap.size, 1, none⟩ = some (.string ⟨#[]⟩) := HW.out.box.cell 1 rfl; have p2 : w2.cell? ⟨w.heap.size, 2, none⟩ = some (.int .i64 0) := HW.out.box.cell 2 rfl; have p3 : w2.cell? ⟨w.heap.size, 3, none⟩ = some (.int .i64 0) := HW.out.box.cell 3 rfl; have p4 : w2.cell? ⟨w.heap.size, 4, none⟩ = some (.string ⟨#[]⟩) := HW.out.box.cell 4 rfl; clear hb))
  go_region_held3 (fun w' => w'.cell? ⟨w.heap.size, 0, none⟩ = some (.int .i64 15) ∧ w'.cell? ⟨w.heap.size, 1, none⟩ = some (.string ⟨#[]⟩) ∧ w'.cell? ⟨w.heap.size, 2, none⟩ = some (.int .i64 0) ∧ w'.cell? ⟨w.heap.size, 3, none⟩ = some (.int .i64 0) ∧ w'.cell? ⟨w.heap.size, 4, none⟩ = some (.string ⟨#[]⟩) ∧ w'.cell? ⟨k, 0, none⟩ = some (.pointer (some ⟨r, 0, none⟩))) (first | (refine ⟨?_, ?_, ?_, ?_, ?_, ?_⟩ <;> (first | (with_reducible assumption))) | go_keep)
    ((go_at_call 65; (with_reducible refine (without_one r _ HW.out.drew.tr).mono ?_); rintro e w7 ⟨rfl, hb⟩; have HW := Lib.hid (HW.out.drew.later hb); have p0 : w7.cell? ⟨w.heap.size, 0, none⟩ = some (.int .i64 15) := HW.out.box.cell 0 rfl; have p1 : w7.cell? ⟨w.heap.size, 1, none⟩ = some (.string ⟨#[]⟩) := HW.out.box.cell 1 rfl; have p2 : w7.cell? ⟨w.heap.size, 2, none⟩ = some (.int .i64 0) := HW.out.box.cell 2 rfl; have p3 : w7.cell? ⟨w.heap.size, 3, none⟩ = some (.int .i64 0) := HW.out.box.cell 3 rfl; have p4 : w7.cell? ⟨w.heap.size, 4, none⟩ = some (.string ⟨#[]⟩) := HW.out.box.cell 4 rfl; have p5 := HW.out.st.cell 0 rfl; clear hb))
  go_wp2
  go_ret2
  exact ⟨w7.heap.size, rfl, ⟨w7.heap.size, none, rfl, by rw [World.size_alloc]; omega, Blk.new w7 [.pointer none] 95, rfl⟩, HW.out.bel.alloc HW.out.bel.size _⟩
end Go.Proofs.YtapkboadkbnjaaaGreatDoor
