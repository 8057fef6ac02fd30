/- Name.Check at the clock. -/
import Derived.Test.YtapkboadkbnjaaaGreatDoorP4
namespace Go.Proofs.YtapkboadkbnjaaaGreatDoor
open Go.RowKit Go.Own

theorem number_calls (n : Int) (w : World) : Calls Tryz.prog 62 #[.int .i64 n] w fun e w' => e = .returned (.bool (decide (0 ≤ n) && decide (n ≤ 1073741824))) ∧ w = w' := by
  by_cases h0 : 0 ≤ n
  · by_cases h1 : n ≤ 1073741824
    · go_enter Tryz.func62, Tryz.ntmps62
      go_wp2
      go_ret
      exact ⟨by simp [h0, h1], rfl⟩
    · go_enter Tryz.func62, Tryz.ntmps62
      go_wp2
      go_ret
      exact ⟨by simp [h1], rfl⟩
  · go_enter Tryz.func62, Tryz.ntmps62
    go_wp2
    go_ret
    exact ⟨ret_bool (by rw [decide_eq_false (by omega : ¬ 0 ≤ n)]; rfl), rfl⟩

theorem index_clock (w : World) : (Instr.index 117 (.agg usesL.toArray) (.int .i64 15)).run Tryz.prog w = .ok (.agg #[.string ⟨#[99, 108, 111, 99, 107]⟩, .bool false, .bool false, .bool false, .int .i64 (-1)]) w := by kernel_rfl


/-- The box of a name, and Below, behind the call of uses. -/
structure UN2 (w0 : World) (X : Nat) (cs : List Value) (w : World) : Prop where
  k : Blk w X cs 34
  bel : Below w0.heap.size w0 w
  k0 : w.cell? ⟨X, 0, none⟩ = some (.int .i64 15)
  ne : w.heap.size ≠ X
structure UN1 (w0 : World) (X Y : Nat) (cs : List Value) (w : World) : Prop where
  k : Blk w X cs 34
  bel : Below w0.heap.size w0 w
  k0 : w.cell? ⟨X, 0, none⟩ = some (.int .i64 15)
  y : Blk w Y [.string ⟨#[]⟩, .bool false, .bool false, .bool false, .int .i64 0] 116
theorem un_two {w0 w1 w7 : World} (hk : Blk w1 w0.heap.size (nmC clockN) 34) (hB : Below w0.heap.size w0 w1) (hb : Below w1.drew.heap.size w1.drew w7) : UN2 w0 w0.heap.size (nmC clockN) w7 :=
  have k := hk.drew.below hb hk.lt
  ⟨k, bel_then (hB.trans (qm_drew _ _)) hB.size hb, k.cell 0 rfl, fun e => by have := k.lt; omega⟩
theorem un_one {w0 w1 w7 : World} (hk : Blk w1 w0.heap.size (nmC clockN) 34) (hB : Below w0.heap.size w0 w1) (hb : Below (w1.alloc (.cells #[.string ⟨#[]⟩, .bool false, .bool false, .bool false, .int .i64 0] 116)).drew.heap.size (w1.alloc (.cells #[.string ⟨#[]⟩, .bool false, .bool false, .bool false, .int .i64 0] 116)).drew w7) : UN1 w0 w0.heap.size w1.heap.size (nmC clockN) w7 :=
  have k := (hk.alloc (.cells #[.string ⟨#[]⟩, .bool false, .bool false, .bool false, .int .i64 0] 116)).drew.below hb (hk.alloc (.cells #[.string ⟨#[]⟩, .bool false, .bool false, .bool false, .int .i64 0] 116)).lt
  have y := (Blk.new w1 [.string ⟨#[]⟩, .bool false, .bool false, .bool false, .int .i64 0] 116).drew.below hb (Blk.new w1 [.string ⟨#[]⟩, .bool false, .bool false, .bool false, .int .i64 0] 116).lt
  ⟨k, bel_then ((hB.alloc hB.size _).trans (qm_drew _ _)) (Nat.le_trans hB.size (by show _ ≤ (w1.alloc _).heap.size; rw [World.size_alloc]; omega)) hb, k.cell 0 rfl, y⟩

structure UE (w0 : World) (X Y : Nat) (cs : List Value) (W : World) : Prop where
  k : Blk W X cs 34
  y : Blk W Y [.string ⟨#[99, 108, 111, 99, 107]⟩, .bool false, .bool false, .bool false, .int .i64 (-1)] 116
  bel : Below w0.heap.size w0 W
theorem ue_two {w0 w7 : World} {X : Nat} {cs : List Value} (h : UN2 w0 X cs w7) : UE w0 X w7.heap.size cs (w7.alloc (.cells #[.string ⟨#[99, 108, 111, 99, 107]⟩, .bool false, .bool false, .bool false, .int .i64 (-1)] 116)) :=
  ⟨h.k.alloc _, Blk.new w7 _ 116, h.bel.alloc h.bel.size _⟩
theorem ue_one {w0 w7 : World} {X Y : Nat} {cs : List Value} (h : UN1 w0 X Y cs w7) (hXY : X ≠ Y) (hY : w0.heap.size ≤ Y) :
    UE w0 X Y cs (((((w7.setCell ⟨Y, 0, none⟩ (.string ⟨#[99, 108, 111, 99, 107]⟩)).setCell ⟨Y, 1, none⟩ (.bool false)).setCell ⟨Y, 2, none⟩ (.bool false)).setCell ⟨Y, 3, none⟩ (.bool false)).setCell ⟨Y, 4, none⟩ (.int .i64 (-1))) :=
  ⟨((((h.k.other hXY _).other hXY _).other hXY _).other hXY _).other hXY _, ((((h.y.set 0 _).set 1 _).set 2 _).set 3 _).set 4 _,
    ((((h.bel.setCell (p := ⟨Y, 0, none⟩) hY _).setCell (p := ⟨Y, 1, none⟩) hY _).setCell (p := ⟨Y, 2, none⟩) hY _).setCell (p := ⟨Y, 3, none⟩) hY _).setCell (p := ⟨Y, 4, none⟩) hY _⟩

set_option maxRecDepth 100000 in
set_option maxHeartbeats 4000000 in
theorem check_clock (w : World) : Calls Tryz.prog 31 #[nmV clockN] w fun e w' => e = .returned (.int .i64 0) ∧ Below w.heap.size w w' := by
  have HB := Lib.hid (bel1 w (.cells #[.int .i64 15, .string ⟨#[]⟩, .int .i64 0, .int .i64 0, .string ⟨#[]⟩] 34))
  have B := Blk.new w [.int .i64 15, .string ⟨#[]⟩, .int .i64 0, .int .i64 0, .string ⟨#[]⟩] 34
  have HK := Lib.hid B
  clear B
  have U := fun w => uses_calls w
  obtain ⟨A, hA⟩ : ∃ A : Array Value, A = usesL.toArray := ⟨_, rfl⟩
  have hix := index_clock
  rw [← hA] at U hix
  have HU := Lib.hid U
  have HA := Lib.hid hA
  clear U hA
  show Calls Tryz.prog 31 #[.agg #[.int .i64 15, .string ⟨#[]⟩, .int .i64 0, .int .i64 0, .string ⟨#[]⟩]] w _
  go_enter Tryz.func31, Tryz.ntmps31
  go_wp2_with fail
  obtain ⟨w1, hw1⟩ : ∃ w1, w1 = w.alloc (.cells #[.int .i64 15, .string ⟨#[]⟩, .int .i64 0, .int .i64 0, .string ⟨#[]⟩] 34) := ⟨_, rfl⟩
  rw [← hw1] at HB HK ⊢
  clear hw1
  have q0 := HK.out.cell 0 rfl
  have ne1 : w1.heap.size ≠ w.heap.size := fun e => by have := HK.out.lt; omega
  go_region_held3 (fun w' => w'.cell? ⟨w.heap.size, 0, none⟩ = some (.int .i64 15)) (first | (with_reducible assumption) | go_keep)
    ((first
      | (go_at_call 60; (with_reducible refine (HU.out w1.drew).mono ?_); rintro e w7 ⟨rfl, hb⟩; have HN := Lib.hid (un_two HK.out HB.out hb); have q0 := HN.out.k0; have ne7 := HN.out.ne; clear hb)
      | (go_at_call 60; (with_reducible refine (HU.out (w1.alloc (.cells #[.string ⟨#[]⟩, .bool false, .bool false, .bool false, .int .i64 0] 116)).drew).mono ?_); rintro e w7 ⟨rfl, hb⟩; have HN := Lib.hid (un_one HK.out HB.out hb); have q0 := HN.out.k0; have y0 := HN.out.y.cell 0 rfl; have y1 := HN.out.y.cell 1 rfl; have y2 := HN.out.y.cell 2 rfl; have y3 := HN.out.y.cell 3 rfl; have y4 := HN.out.y.cell 4 rfl; have z0 := HN.out.y.free 0; have z1 := HN.out.y.free 1; have z2 := HN.out.y.free 2; have z3 := HN.out.y.free 3; have z4 := HN.out.y.free 4; clear hb)))
  · have HE := Lib.hid (ue_two HN.out)
    obtain ⟨W, hW⟩ : ∃ W, W = w7.alloc (.cells #[.string ⟨#[99, 108, 111, 99, 107]⟩, .bool false, .bool false, .bool false, .int .i64 (-1)] 116) := ⟨_, rfl⟩
    rw [← hW] at HE ⊢
    clear hW
    have q0 : W.cell? ⟨w.heap.size, 0, none⟩ = some (.int .i64 15) := HE.out.k.cell 0 rfl
    have q1 : W.cell? ⟨w.heap.size, 1, none⟩ = some (.string ⟨#[]⟩) := HE.out.k.cell 1 rfl
    have q2 : W.cell? ⟨w.heap.size, 2, none⟩ = some (.int .i64 0) := HE.out.k.cell 2 rfl
    have q3 : W.cell? ⟨w.heap.size, 3, none⟩ = some (.int .i64 0) := HE.out.k.cell 3 rfl
    have q4 : W.cell? ⟨w.heap.size, 4, none⟩ = some (.string ⟨#[]⟩) := HE.out.k.cell 4 rfl
    have u1 := HE.out.y.cell 1 rfl
    have u2 := HE.out.y.cell 2 rfl
    have u3 := HE.out.y.cell 3 rfl
    have u4 := HE.out.y.cell 4 rfl
    go_wp2_with (go_at_call 62; (with_reducible refine (number_calls _ _).mono ?_); rintro e w9 ⟨rfl, rfl⟩)
    go_ret
    exact ⟨rfl, HE.out.bel⟩
  · have HE := Lib.hid (ue_two HN.out)
    obtain ⟨W, hW⟩ : ∃ W, W = w7.alloc (.cells #[.string ⟨#[99, 108, 111, 99, 107]⟩, .bool false, .bool false, .bool false, .int .i64 (-1)] 116) := ⟨_, rfl⟩
    rw [← hW] at HE ⊢
    clear hW
    have q0 : W.cell? ⟨w.heap.size, 0, none⟩ = some (.int .i64 15) := HE.out.k.cell 0 rfl
    have q1 : W.cell? ⟨w.heap.size, 1, none⟩ = some (.string ⟨#[]⟩) := HE.out.k.cell 1 rfl
    have q2 : W.cell? ⟨w.heap.size, 2, none⟩ = some (.int .i64 0) := HE.out.k.cell 2 rfl
    have q3 : W.cell? ⟨w.heap.size, 3, none⟩ = some (.int .i64 0) := HE.out.k.cell 3 rfl
    have q4 : W.cell? ⟨w.heap.size, 4, none⟩ = some (.string ⟨#[]⟩) := HE.out.k.cell 4 rfl
    have u1 := HE.out.y.cell 1 rfl
    have u2 := HE.out.y.cell 2 rfl
    have u3 := HE.out.y.cell 3 rfl
    have u4 := HE.out.y.cell 4 rfl
    go_wp2_with (go_at_call 62; (with_reducible refine (number_calls _ _).mono ?_); rintro e w9 ⟨rfl, rfl⟩)
    go_ret
    exact ⟨rfl, HE.out.bel⟩
  · have HE := Lib.hid (ue_one HN.out (Ne.symm ne1) HB.out.size)
    obtain ⟨W, hW⟩ : ∃ W, W = (((((w7.setCell ⟨w1.heap.size, 0, none⟩ (.string ⟨#[99, 108, 111, 99, 107]⟩)).setCell ⟨w1.heap.size, 1, none⟩ (.bool false)).setCell ⟨w1.heap.size, 2, none⟩ (.bool false)).setCell ⟨w1.heap.size, 3, none⟩ (.bool false)).setCell ⟨w1.heap.size, 4, none⟩ (.int .i64 (-1))) := ⟨_, rfl⟩
    rw [← hW] at HE ⊢
    clear hW
    have q0 : W.cell? ⟨w.heap.size, 0, none⟩ = some (.int .i64 15) := HE.out.k.cell 0 rfl
    have q1 : W.cell? ⟨w.heap.size, 1, none⟩ = some (.string ⟨#[]⟩) := HE.out.k.cell 1 rfl
    have q2 : W.cell? ⟨w.heap.size, 2, none⟩ = some (.int .i64 0) := HE.out.k.cell 2 rfl
    have q3 : W.cell? ⟨w.heap.size, 3, none⟩ = some (.int .i64 0) := HE.out.k.cell 3 rfl
    have q4 : W.cell? ⟨w.heap.size, 4, none⟩ = some (.string ⟨#[]⟩) := HE.out.k.cell 4 rfl
    have u1 := HE.out.y.cell 1 rfl
    have u2 := HE.out.y.cell 2 rfl
    have u3 := HE.out.y.cell 3 rfl
    have u4 := HE.out.y.cell 4 rfl
    go_wp2_with (go_at_call 62; (with_reducible refine (number_calls _ _).mono ?_); rintro e w9 ⟨rfl, rfl⟩)
    go_ret
    exact ⟨rfl, HE.out.bel⟩
end Go.Proofs.YtapkboadkbnjaaaGreatDoor
