/- With at the empty state; the example's first step. -/
import Derived.Test.YtapkboadkbnjaaaGreatDoorQ2
import Derived.Test.YtapkboadkbnjaaaGreatDoorP5
namespace Go.Proofs.YtapkboadkbnjaaaGreatDoor
open Go.RowKit Go.Own

theorem check_clockV (w : World) : Calls Tryz.prog 31 #[clockV] w fun e w' => e = .returned (.int .i64 0) ∧ Below w.heap.size w w' := check_clock w
theorem get_leafV (p : Option Addr) (w : World) (hs : IsS w.heap.size w p (some .leaf)) : Calls Tryz.prog 15 #[.pointer p, clockV] w fun e w' => e = .returned (.tuple #[.string ⟨#[]⟩, .bool false]) ∧ Below w.heap.size w w' := get_leaf p (some .leaf) rfl clockN w hs
structure WS (w0 : World) (X k : Nat) (w : World) : Prop where
  box : Blk w X clockC 34
  st : Blk w k [.pointer none] 95
  bel : Below w0.heap.size w0 w
theorem WS.later {w0 w w' : World} {X k : Nat} (h : WS w0 X k w) (hb : Below w.heap.size w w') : WS w0 X k w' :=
  ⟨h.box.below hb h.box.lt, h.st.below hb h.st.lt, bel_then h.bel h.bel.size hb⟩
theorem WS.drew {w0 w : World} {X k : Nat} (h : WS w0 X k w) : WS w0 X k w.drew := ⟨h.box.drew, h.st.drew, h.bel.trans (qm_drew _ _)⟩
theorem WS.isS {w0 w : World} {X k : Nat} (h : WS w0 X k w) : IsS w.heap.size w (some ⟨k, 0, none⟩) (some .leaf) := ⟨k, none, rfl, h.st.lt, h.st, rfl⟩
theorem len_leaf (p : Option Addr) (w : World) (hs : IsS w.heap.size w p (some .leaf)) : Calls Tryz.prog 34 #[.pointer p] w fun e w' => e = .returned (.int .i64 0) ∧ w = w' := len_calls p (some .leaf) _ w hs
def WithPost (w : World) (e : Ending) (w' : World) : Prop := ∃ k, e = .returned (.tuple #[.pointer (some ⟨k, 0, none⟩), .int .i64 0]) ∧ IsS w'.heap.size w' (some ⟨k, 0, none⟩) (some oneT) ∧ Below w.heap.size w w'

set_option maxHeartbeats 2000000 in
theorem with_new (p : Option Addr) (w : World) (hs : IsS w.heap.size w p (some .leaf)) : Calls Tryz.prog 32 #[.pointer p, clockV, .string ⟨#[97]⟩] w (WithPost w) := by
  obtain ⟨k, r, rfl, hk, hb, rfl⟩ := hs
  have X := bel1 w (.cells #[.int .i64 15, .string ⟨#[]⟩, .int .i64 0, .int .i64 0, .string ⟨#[]⟩] 34)
  have HW : Hid (WS w w.heap.size k (w.alloc (.cells #[.int .i64 15, .string ⟨#[]⟩, .int .i64 0, .int .i64 0, .string ⟨#[]⟩] 34))) := ⟨Blk.new w clockC 34, hb.alloc _, X⟩
  clear X hb hk
  go_enter Tryz.func32, Tryz.ntmps32
  go_upto_region 10 with (first
    | (go_at_call 15; (with_reducible refine (get_leafV _ _ HW.out.isS).mono ?_); rintro e w1 ⟨rfl, hb⟩; have HW := Lib.hid (HW.out.later hb); have p0 : w1.cell? ⟨w.heap.size, 0, none⟩ = some (.int .i64 15) := HW.out.box.cell 0 rfl; have p1 : w1.cell? ⟨w.heap.size, 1, none⟩ = some (.string ⟨#[]⟩) := HW.out.box.cell 1 rfl; have p2 : w1.cell? ⟨w.heap.size, 2, none⟩ = some (.int .i64 0) := HW.out.box.cell 2 rfl; have p3 : w1.cell? ⟨w.heap.size, 3, none⟩ = some (.int .i64 0) := HW.out.box.cell 3 rfl; have p4 : w1.cell? ⟨w.heap.size, 4, none⟩ = some (.string ⟨#[]⟩) := HW.out.box.cell 4 rfl; clear hb)
    | (go_at_call 31; (with_reducible refine (check_clockV _).mono ?_); rintro e w2 ⟨rfl, hb⟩; have HW := Lib.hid (HW.out.later hb); have p0 : w2.cell? ⟨w.heap.size, 0, none⟩ = some (.int .i64 15) := HW.out.box.cell 0 rfl; have p1 : w2.cell? ⟨w.heap.size, 1, none⟩ = some (.string ⟨#[]⟩) := HW.out.box.cell 1 rfl; have p2 : w2.cell? ⟨w.heap.size, 2, none⟩ = some (.int .i64 0) := HW.out.box.cell 2 rfl; have p3 : w2.cell? ⟨w.heap.size, 3, none⟩ = some (.int .i64 0) := HW.out.box.cell 3 rfl; have p4 : w2.cell? ⟨w.heap.size, 4, none⟩ = some (.string ⟨#[]⟩) := HW.out.box.cell 4 rfl; have p5 := HW.out.st.cell 0 rfl; clear hb)
    | (go_at_call 34; (with_reducible refine (len_leaf _ _ HW.out.isS).mono ?_); rintro e w3 ⟨rfl, rfl⟩))
  go_region_held3 (fun w' => w'.cell? ⟨w.heap.size, 0, none⟩ = some (.int .i64 15) ∧ w'.cell? ⟨w.heap.size, 1, none⟩ = some (.string ⟨#[]⟩) ∧ w'.cell? ⟨w.heap.size, 2, none⟩ = some (.int .i64 0) ∧ w'.cell? ⟨w.heap.size, 3, none⟩ = some (.int .i64 0) ∧ w'.cell? ⟨w.heap.size, 4, none⟩ = some (.string ⟨#[]⟩) ∧ w'.cell? ⟨k, 0, none⟩ = some (.pointer none)) (first | (refine ⟨?_, ?_, ?_, ?_, ?_, ?_⟩ <;> (first | (with_reducible assumption))) | go_keep)
    ((go_at_call 64; (refine (with_nil _).mono ?_); rintro e w7 ⟨kt, rfl, ht, hb⟩; have HW := Lib.hid (HW.out.drew.later hb); have HT := Lib.hid ht; have p0 : w7.cell? ⟨w.heap.size, 0, none⟩ = some (.int .i64 15) := HW.out.box.cell 0 rfl; have p1 : w7.cell? ⟨w.heap.size, 1, none⟩ = some (.string ⟨#[]⟩) := HW.out.box.cell 1 rfl; have p2 : w7.cell? ⟨w.heap.size, 2, none⟩ = some (.int .i64 0) := HW.out.box.cell 2 rfl; have p3 : w7.cell? ⟨w.heap.size, 3, none⟩ = some (.int .i64 0) := HW.out.box.cell 3 rfl; have p4 : w7.cell? ⟨w.heap.size, 4, none⟩ = some (.string ⟨#[]⟩) := HW.out.box.cell 4 rfl; have p5 := HW.out.st.cell 0 rfl; clear hb ht))
  go_wp2
  go_ret2
  exact ⟨w7.heap.size, rfl, ⟨w7.heap.size, some ⟨kt, 0, none⟩, rfl, by rw [World.size_alloc]; omega, Blk.new w7 [.pointer (some ⟨kt, 0, none⟩)] 95, HT.out.later (bel1 _ _)⟩, HW.out.bel.alloc HW.out.bel.size _⟩
end Go.Proofs.YtapkboadkbnjaaaGreatDoor
