/- lineage.parse at the empty text. -/
import Derived.Test.YtapkboadkbnjaaaGreatDoorW2
import Derived.RangeFuncNested
import Derived.RangeFuncBound
import Derived.RangeFuncCalls
import Derived.RangeFuncLeaves
import Derived.Shelf.Abstract
import Derived.Shelf.RegionOpen
import Derived.WalkKit
import Derived.OwnWalkIn
import Derived.TacticsInMore
import Derived.LoopNIn
import Derived.LoopIn
namespace Go.Proofs.YtapkboadkbnjaaaGreatDoor
open Go.RowKit Go.Own Go.Shelf
attribute [local go_sem] Oper.semAt_some

theorem parts_in (F : Fence) (n : Nat) (h : F.fn 136) (hro : F.round = none) (s : ByteArray) (w : World) :
    CallsIn F n Tryz.prog 136 #[.string s] w fun e w' => e = .returned (.func (.func 147) #[] #[.pointer (some ⟨w.heap.size, 0, none⟩)]) ∧ w' = w.alloc (.cells #[.string s] 9) := by
  refine callsIn_of_wp Tryz.func136 rfl h ?_ hro
  simp only [Tryz.ntmps136, List.size_toArray, List.length_cons, List.length_nil, Nat.reduceAdd, Nat.reduceSub, Array.replicate_succ, Array.replicate_zero, List.push_toArray, List.append_toArray, List.nil_append, List.cons_append]
  gi_wp2
  go_ret
  exact ⟨rfl, rfl⟩

theorem parts1_empty (F : Fence) (n : Nat) (h : F.fn 147) (hro : F.round = none) (Bt n₀ : Nat) (w : World) (hBt : Bt < w.heap.size) (hc : w.cell? ⟨Bt, 0, none⟩ = some (.string ⟨#[]⟩)) :
    SeqStopsK F n Tryz.prog 147 #[.pointer (some ⟨Bt, 0, none⟩)] (fun x : Empty => x.elim) (Below n₀) (fun _ => True) (fun _ => False) 0 w := fun l J Jx W hW _ _ _ h0 => by
  have hc' : W.cell? ⟨Bt, 0, none⟩ = some (.string ⟨#[]⟩) := (hW.cell (p := ⟨Bt, 0, none⟩) hBt).trans hc
  refine callsIn_of_wp Tryz.func147 rfl h ?_ hro
  simp only [Tryz.ntmps147, List.size_toArray, List.length_cons, List.length_nil, Nat.reduceAdd, Nat.reduceSub, Array.replicate_succ, Array.replicate_zero, List.push_toArray, List.append_toArray, List.nil_append, List.cons_append]
  gi_wp2
  gi_loopw [3] (fun _ wr => wr = W) (fun _ _ => 0)
  case atStart => rfl
  case round =>
    subst hrel
    gi_wp2
    go_end0
    exact ⟨⟨_, rfl⟩, .inl ⟨[], trivial, h0⟩⟩


/-- What stands in the variables of parse as long as nothing has come. -/
structure PC (X : Nat) (W : World) : Prop where
  c2 : W.cell? ⟨X, 0, none⟩ = some (.slice none 0 0)
  c3 : W.cell? ⟨X + 1, 0, none⟩ = some (.int .i64 0)
  c4 : W.cell? ⟨X + 1 + 1, 0, none⟩ = some (.int .i64 0)
  c5 : W.cell? ⟨X + 1 + 1 + 1, 0, none⟩ = some (.slice none 0 0)
  f2 : W.frozen? ⟨X, 0, none⟩ = false
  f3 : W.frozen? ⟨X + 1, 0, none⟩ = false
  f4 : W.frozen? ⟨X + 1 + 1, 0, none⟩ = false
theorem pc_own (X : Nat) : Own (fun (_ : List Empty) W => PC X W) := fun _ _ _ _ hs hg hr =>
  ⟨cell_kept hs.c2 hg hr, cell_kept hs.c3 hg hr, cell_kept hs.c4 hg hr, cell_kept hs.c5 hg hr, (frozen_kept hs.c2 hg hr).trans hs.f2, (frozen_kept hs.c3 hg hr).trans hs.f3, (frozen_kept hs.c4 hg hr).trans hs.f4⟩
/-- The five variables of parse before its loop. -/
theorem parse_cells (w : World) : Below w.heap.size w (((((w.alloc (.cells #[.slice none 0 0] 163)).alloc (.cells #[.int .i64 0] 3)).alloc (.cells #[.int .i64 0] 59)).alloc (.cells #[.slice none 0 0] 163)).alloc (.cells #[.string ⟨#[]⟩] 9)) :=
  (((((Below.refl _ w).alloc (Nat.le_refl _) _).alloc (by simp) _).alloc (by simp; omega) _).alloc (by simp; omega) _).alloc (by simp; omega) _

set_option maxRecDepth 100000 in
set_option maxHeartbeats 2000000 in
theorem parse_empty_in (F : Fence) (n : Nat) (h105 : F.fn 105) (h136 : F.fn 136) (h147 : F.fn 147) (hro : F.round = none) (hn : 3 ≤ n) (w : World) :
    CallsIn F n Tryz.prog 105 #[.string ⟨#[]⟩] w fun e W' => e = .returned (.tuple #[.slice none 0 0, .int .i64 0, .int .i64 0]) ∧ Below w.heap.size w W' := by
  have h1 : 1 ≤ n := by omega
  refine callsIn_of_wp_marks Tryz.func105 rfl h105 ?_ hro
  simp only [Tryz.ntmps105, List.size_toArray, List.length_cons, List.length_nil, Nat.reduceAdd, Nat.reduceSub, Array.replicate_succ, Array.replicate_zero, List.push_toArray, List.append_toArray, List.nil_append, List.cons_append]
  gi_wp2_with (gi_at_call 136; refine (parts_in F (n - 1) h136 hro _ _).mono ?_; rintro e w' ⟨rfl, rfl⟩)
  have hB0 := parse_cells w
  obtain ⟨w5, hw5⟩ : ∃ w5, w5 = (((((w.alloc (.cells #[.slice none 0 0] 163)).alloc (.cells #[.int .i64 0] 3)).alloc (.cells #[.int .i64 0] 59)).alloc (.cells #[.slice none 0 0] 163)).alloc (.cells #[.string ⟨#[]⟩] 9)) := ⟨_, rfl⟩
  have b0 : Blk w5 w.heap.size [.slice none 0 0] 163 := by rw [hw5]; exact ((((Blk.new w [.slice none 0 0] 163).alloc _).alloc _).alloc _).alloc _
  have b1 : Blk w5 (w.heap.size + 1) [.int .i64 0] 3 := by
    have h := (((Blk.new (w.alloc (.cells #[.slice none 0 0] 163)) [.int .i64 0] 3).alloc (.cells #[.int .i64 0] 59)).alloc (.cells #[.slice none 0 0] 163)).alloc (.cells #[.string ⟨#[]⟩] 9)
    rw [World.size_alloc] at h
    rw [hw5]; exact h
  have b2 : Blk w5 (w.heap.size + 1 + 1) [.int .i64 0] 59 := by
    have h := ((Blk.new ((w.alloc (.cells #[.slice none 0 0] 163)).alloc (.cells #[.int .i64 0] 3)) [.int .i64 0] 59).alloc (.cells #[.slice none 0 0] 163)).alloc (.cells #[.string ⟨#[]⟩] 9)
    rw [World.size_alloc, World.size_alloc] at h
    rw [hw5]; exact h
  have b3 : Blk w5 (w.heap.size + 1 + 1 + 1) [.slice none 0 0] 163 := by
    have h := (Blk.new (((w.alloc (.cells #[.slice none 0 0] 163)).alloc (.cells #[.int .i64 0] 3)).alloc (.cells #[.int .i64 0] 59)) [.slice none 0 0] 163).alloc (.cells #[.string ⟨#[]⟩] 9)
    rw [World.size_alloc, World.size_alloc, World.size_alloc] at h
    rw [hw5]; exact h
  have b4 : Blk w5 (w.heap.size + 1 + 1 + 1 + 1) [.string ⟨#[]⟩] 9 := by
    have h := Blk.new ((((w.alloc (.cells #[.slice none 0 0] 163)).alloc (.cells #[.int .i64 0] 3)).alloc (.cells #[.int .i64 0] 59)).alloc (.cells #[.slice none 0 0] 163)) [.string ⟨#[]⟩] 9
    rw [World.size_alloc, World.size_alloc, World.size_alloc, World.size_alloc] at h
    rw [hw5]; exact h
  have hsz : w5.heap.size = w.heap.size + 5 := by rw [hw5]; simp
  rw [← hw5] at hB0
  rw [← hw5]
  clear hw5
  refine wpIn_rangeFunc_ownF hro h1 (gf := 147) (lb := #[.pointer (some ⟨w.heap.size + 1 + 1 + 1 + 1, 0, none⟩)]) rfl h147 (enters_of Tryz.func147 (by kernel_rfl) rfl)
    (parts1_empty F (n - 1) h147 hro (w.heap.size + 1 + 1 + 1 + 1) w.heap.size w5 (by omega) (b4.cell 0 rfl)) belowK_t (belowK_b (by omega)) (Below.refl _ _) (fun x => x.elim)
    (fun _ W => PC w.heap.size W ∧ Below w.heap.size w W)
    (fun _ _ _ => False)
    (OwnFrom.and (Own.from (pc_own _) _) (ownFrom_below (Nat.le_refl _) (by omega)))
    (fun _ _ _ _ _ hs _ _ => hs)
    ⟨⟨b0.cell 0 rfl, b1.cell 0 rfl, b2.cell 0 rfl, b3.cell 0 rfl, b0.free 0, b1.free 0, b2.free 0⟩, hB0⟩
    (fun x => x.elim) ?assign ?body ?done ?stop
  case assign => exact fun _ x => x.elim
  case body => exact fun _ _ x => x.elim
  case done =>
    rintro D ys W hD - ⟨hc, hB⟩ hK
    have q5 := hc.c5
    have q2 := hc.c2
    have q3 := hc.c3
    have q4 := hc.c4
    have g2 := hc.f2
    have g3 := hc.f3
    have g4 := hc.f4
    have e2 : (W.setCell ⟨w.heap.size, 0, none⟩ (.slice none 0 0)).cell? ⟨w.heap.size, 0, none⟩ = some (.slice none 0 0) := World.cell?_setCell_same' _ _ _ (by rw [q2]; rfl)
    obtain ⟨W7, hW7⟩ : ∃ W7, W7 = (((W.setCell ⟨w.heap.size, 0, none⟩ (.slice none 0 0)).setCell ⟨w.heap.size + 1, 0, none⟩ (.int .i64 0)).setCell ⟨w.heap.size + 1 + 1, 0, none⟩ (.int .i64 0)) := ⟨_, rfl⟩
    have k2 : W7.cell? ⟨w.heap.size, 0, none⟩ = some (.slice none 0 0) := by
      rw [hW7, World.cell?_setCell_far _ _ _ _ (by simp; omega), World.cell?_setCell_far _ _ _ _ (by simp)]
      exact e2
    have k3 : W7.cell? ⟨w.heap.size + 1, 0, none⟩ = some (.int .i64 0) := by
      rw [hW7, World.cell?_setCell_far _ _ _ _ (by simp)]
      exact World.cell?_setCell_same' _ _ _ (by rw [World.cell?_setCell_far _ _ _ _ (by simp), q3]; rfl)
    have k4 : W7.cell? ⟨w.heap.size + 1 + 1, 0, none⟩ = some (.int .i64 0) := by
      rw [hW7]
      exact World.cell?_setCell_same' _ _ _ (by rw [World.cell?_setCell_far _ _ _ _ (by simp), World.cell?_setCell_far _ _ _ _ (by simp; omega), q4]; rfl)
    have hK7 : W7.heap[D]? = some (.deferred (some [])) := by
      rw [hW7]
      exact (KeepsOthers.setCell _ _ _).same D _ ((KeepsOthers.setCell _ _ _).same D _ ((KeepsOthers.setCell _ _ _).same D _ hK rfl) rfl) rfl
    have hB7 : Below w.heap.size w W7 := by
      rw [hW7]
      exact ((hB.setCell (p := ⟨w.heap.size, 0, none⟩) (Nat.le_refl _) _).setCell (p := ⟨w.heap.size + 1, 0, none⟩) (Nat.le_succ _) _).setCell (p := ⟨w.heap.size + 1 + 1, 0, none⟩) (by show _ ≤ _ + 1 + 1; omega) _
    gi_wp2
    rw [← hW7]
    clear hW7
    refine ⟨by simp, .inl ⟨_, _, rfl, run_takeDeferred hK7, ?_⟩⟩
    have hkr : ∀ r, some D = some r → ∃ o : Obj, W7.heap[r]? = some o ∧ o.isCells = false := fun r e => by cases e; exact ⟨_, hK7, rfl⟩
    have m2 := cell_kept k2 (grownBy_putObj' W7 D (.deferred none)) hkr
    have m3 := cell_kept k3 (grownBy_putObj' W7 D (.deferred none)) hkr
    have m4 := cell_kept k4 (grownBy_putObj' W7 D (.deferred none)) hkr
    refine ⟨.tuple #[.slice none 0 0, .int .i64 0, .int .i64 0], by simp [results, Tryz.results105, go_sem, m2, m3, m4], rfl, hB7.trans (belowK_b (w := w) (Nat.le_refl _) W7 D _ _ (by omega) hK7 rfl rfl)⟩
  case stop => exact fun _ _ _ _ _ h => h.elim

end Go.Proofs.YtapkboadkbnjaaaGreatDoor
