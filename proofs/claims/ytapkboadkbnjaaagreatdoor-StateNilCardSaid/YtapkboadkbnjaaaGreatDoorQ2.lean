/- with at the empty tree; Get at a state without objects and at the example's. -/
import Derived.Test.YtapkboadkbnjaaaGreatDoorQ1
import Derived.Test.YtapkboadkbnjaaaGreatDoorP3
namespace Go.Proofs.YtapkboadkbnjaaaGreatDoor
open Go.RowKit Go.Own

theorem with_nil (w : World) : Calls Tryz.prog 64 #[.pointer none, clockV, .string ⟨#[97]⟩] w (JoinPost w) := by
  have HB := Lib.hid (bel1 w (.cells #[.int .i64 15, .string ⟨#[]⟩, .int .i64 0, .int .i64 0, .string ⟨#[]⟩] 34))
  go_enter Tryz.func64, Tryz.ntmps64
  go_wp2_with (go_at_call 108; (refine (join_one _).mono ?_); rintro e w4 ⟨k, rfl, ht, hb⟩)
  go_ret
  exact ⟨k, rfl, ht, bel_then HB.out (by simp) hb⟩

theorem get_leaf (p : Option Addr) (s : Option T) (hl : rootT s = .leaf) (n : Nm) (w : World) (hs : IsS w.heap.size w p s) : Calls Tryz.prog 15 #[.pointer p, nmV n] w fun e w' => e = .returned (.tuple #[.string ⟨#[]⟩, .bool false]) ∧ Below w.heap.size w w' := by
  have HS := Lib.hid (hs.below (bel1 w (.cells #[.int .i64 n.kind, .string n.owner, .int .i64 n.num, .int .i64 n.idx, .string n.text] 34)))
  have HB := Lib.hid (bel1 w (.cells #[.int .i64 n.kind, .string n.owner, .int .i64 n.num, .int .i64 n.idx, .string n.text] 34))
  go_enter Tryz.func15, Tryz.ntmps15
  go_wp2_with (go_at_call 43; (with_reducible refine (tree_calls _ s w.heap.size _ HS.out).mono ?_); rintro e w1 ⟨⟨r, rfl, hr⟩, rfl⟩)
  rw [hl] at hr
  obtain rfl : r = none := hr
  go_loop [6] (fun i => i = .pointer none) (fun _ => 0)
  case atStart => rfl
  case round =>
    subst hrel
    go_wp2
    go_ret2
    exact ⟨rfl, HB.out⟩

/-- The example's state in memory: the node, the box of the name that is asked for. -/
structure G1 (w0 : World) (X k : Nat) (w : World) : Prop where
  box : Blk w X clockC 34
  nd : Blk w k (nodeC clockN ⟨#[97]⟩ none none 1 1 1) 89
  bel : Below w0.heap.size w0 w
theorem G1.later {w0 w w' : World} {X k : Nat} (h : G1 w0 X k w) (hb : Below w.heap.size w w') : G1 w0 X k w' :=
  ⟨h.box.below hb h.box.lt, h.nd.below hb h.nd.lt, bel_then h.bel h.bel.size hb⟩
theorem G1.drew {w0 w : World} {X k : Nat} (h : G1 w0 X k w) : G1 w0 X k w.drew := ⟨h.box.drew, h.nd.drew, h.bel.trans (qm_drew _ _)⟩
theorem compare_clockV (w : World) : Calls Tryz.prog 44 #[clockV, clockV] w fun e w' => e = .returned (.int .i64 0) ∧ Below w.heap.size w w' := compare_clock w

set_option maxHeartbeats 2000000 in
theorem get_one (p : Option Addr) (w : World) (hs : IsS w.heap.size w p (some oneT)) : Calls Tryz.prog 15 #[.pointer p, clockV] w fun e w' => e = .returned (.tuple #[.string ⟨#[97]⟩, .bool true]) ∧ Below w.heap.size w w' := by
  have X := bel1 w (.cells #[.int .i64 15, .string ⟨#[]⟩, .int .i64 0, .int .i64 0, .string ⟨#[]⟩] 34)
  have HS := Lib.hid (hs.below X)
  have HBK := Lib.hid (Blk.new w clockC 34)
  have HX := Lib.hid X
  clear X
  go_enter Tryz.func15, Tryz.ntmps15
  go_wp2_with (go_at_call 43; (with_reducible refine (tree_calls _ (some oneT) w.heap.size _ HS.out).mono ?_); rintro e w1 ⟨⟨r, rfl, hr⟩, rfl⟩)
  obtain ⟨k, pl, pr, rfl, -, hk, rfl, rfl⟩ := hr
  obtain ⟨w1, hw1⟩ : ∃ w1, w1 = w.alloc (.cells #[.int .i64 15, .string ⟨#[]⟩, .int .i64 0, .int .i64 0, .string ⟨#[]⟩] 34) := ⟨_, rfl⟩
  have HG : Hid (G1 w w.heap.size k w1) := by rw [hw1]; exact ⟨HBK.out, hk, HX.out⟩
  rw [← hw1]
  clear hw1 HS HBK HX hk
  go_loopw [6] (fun i wr => i = .pointer (some ⟨k, 0, none⟩) ∧ Hid (G1 w w.heap.size k wr)) (fun _ _ => 0)
  case atStart => exact ⟨rfl, HG⟩
  case round =>
    obtain ⟨rfl, HR⟩ := hrel
    clear HG
    obtain ⟨w2, rfl⟩ : ∃ w2, w2 = wr := ⟨_, rfl⟩
    have p0 : w2.cell? ⟨w.heap.size, 0, none⟩ = some (.int .i64 15) := HR.out.box.cell 0 rfl
    have p1 : w2.cell? ⟨w.heap.size, 1, none⟩ = some (.string ⟨#[]⟩) := HR.out.box.cell 1 rfl
    have p2 : w2.cell? ⟨w.heap.size, 2, none⟩ = some (.int .i64 0) := HR.out.box.cell 2 rfl
    have p3 : w2.cell? ⟨w.heap.size, 3, none⟩ = some (.int .i64 0) := HR.out.box.cell 3 rfl
    have p4 : w2.cell? ⟨w.heap.size, 4, none⟩ = some (.string ⟨#[]⟩) := HR.out.box.cell 4 rfl
    have r0 : w2.cell? ⟨k, 0, none⟩ = some (.int .i64 15) := HR.out.nd.cell 0 rfl
    have r1 : w2.cell? ⟨k, 1, none⟩ = some (.string ⟨#[]⟩) := HR.out.nd.cell 1 rfl
    have r2 : w2.cell? ⟨k, 2, none⟩ = some (.int .i64 0) := HR.out.nd.cell 2 rfl
    have r3 : w2.cell? ⟨k, 3, none⟩ = some (.int .i64 0) := HR.out.nd.cell 3 rfl
    have r4 : w2.cell? ⟨k, 4, none⟩ = some (.string ⟨#[]⟩) := HR.out.nd.cell 4 rfl
    go_wp2_with fail
    go_region_held3 (fun w' => w'.cell? ⟨w.heap.size, 0, none⟩ = some (.int .i64 15) ∧ w'.cell? ⟨w.heap.size, 1, none⟩ = some (.string ⟨#[]⟩) ∧ w'.cell? ⟨w.heap.size, 2, none⟩ = some (.int .i64 0) ∧ w'.cell? ⟨w.heap.size, 3, none⟩ = some (.int .i64 0) ∧ w'.cell? ⟨w.heap.size, 4, none⟩ = some (.string ⟨#[]⟩) ∧ w'.cell? ⟨k, 0, none⟩ = some (.int .i64 15) ∧ w'.cell? ⟨k, 1, none⟩ = some (.string ⟨#[]⟩) ∧ w'.cell? ⟨k, 2, none⟩ = some (.int .i64 0) ∧ w'.cell? ⟨k, 3, none⟩ = some (.int .i64 0) ∧ w'.cell? ⟨k, 4, none⟩ = some (.string ⟨#[]⟩)) (first | (refine ⟨?_, ?_, ?_, ?_, ?_, ?_, ?_, ?_, ?_, ?_⟩ <;> (first | (with_reducible assumption))) | go_keep)
      ((go_at_call 44; (with_reducible refine (compare_clockV _).mono ?_); rintro e w7 ⟨rfl, hb⟩; have HR := Lib.hid (HR.out.drew.later hb); have p0 : w7.cell? ⟨w.heap.size, 0, none⟩ = some (.int .i64 15) := HR.out.box.cell 0 rfl; have p1 : w7.cell? ⟨w.heap.size, 1, none⟩ = some (.string ⟨#[]⟩) := HR.out.box.cell 1 rfl; have p2 : w7.cell? ⟨w.heap.size, 2, none⟩ = some (.int .i64 0) := HR.out.box.cell 2 rfl; have p3 : w7.cell? ⟨w.heap.size, 3, none⟩ = some (.int .i64 0) := HR.out.box.cell 3 rfl; have p4 : w7.cell? ⟨w.heap.size, 4, none⟩ = some (.string ⟨#[]⟩) := HR.out.box.cell 4 rfl; have r0 : w7.cell? ⟨k, 0, none⟩ = some (.int .i64 15) := HR.out.nd.cell 0 rfl; have r1 : w7.cell? ⟨k, 1, none⟩ = some (.string ⟨#[]⟩) := HR.out.nd.cell 1 rfl; have r2 : w7.cell? ⟨k, 2, none⟩ = some (.int .i64 0) := HR.out.nd.cell 2 rfl; have r3 : w7.cell? ⟨k, 3, none⟩ = some (.int .i64 0) := HR.out.nd.cell 3 rfl; have r4 : w7.cell? ⟨k, 4, none⟩ = some (.string ⟨#[]⟩) := HR.out.nd.cell 4 rfl; have r5 : w7.cell? ⟨k, 5, none⟩ = some (.string ⟨#[97]⟩) := HR.out.nd.cell 5 rfl; clear hb))
    go_wp2
    go_ret2
    exact ⟨rfl, HR.out.bel⟩
end Go.Proofs.YtapkboadkbnjaaaGreatDoor
