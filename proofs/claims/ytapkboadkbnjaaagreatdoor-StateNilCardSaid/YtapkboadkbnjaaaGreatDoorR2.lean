/- Names and Kind at a nil state. -/
import Derived.Test.YtapkboadkbnjaaaGreatDoorP1
namespace Go.Proofs.YtapkboadkbnjaaaGreatDoor
open Go.RowKit Go.Own Go.Shelf
attribute [local go_sem] Oper.semAt_some

theorem all_in (F : Fence) (n : Nat) (h : F.fn 50) (hro : F.round = none) (p : Option Addr) (w : World) :
    CallsIn F n Tryz.prog 50 #[.pointer p] w fun e w' => e = .returned (.func (.func 98) #[] #[.pointer (some ⟨w.heap.size, 0, none⟩)]) ∧ w' = w.alloc (.cells #[.pointer p] 85) := by
  refine callsIn_of_wp Tryz.func50 rfl h ?_ hro
  simp only [Tryz.ntmps50, List.size_toArray, List.length_cons, List.length_nil, Nat.reduceAdd, Nat.reduceSub, Array.replicate_succ, Array.replicate_zero, List.push_toArray, List.append_toArray, List.nil_append, List.cons_append]
  gi_wp2
  go_ret
  exact ⟨rfl, rfl⟩
theorem walk_nil (l : Nat) (w : World) : Calls Tryz.prog 99 #[.pointer none, .func (.yield l) #[] #[]] w fun e w' => e = .returned (.bool true) ∧ w' = w := by
  go_enter Tryz.func99, Tryz.ntmps99
  go_wp2
  go_ret
  exact ⟨rfl, rfl⟩
theorem tree_in (F : Fence) (n : Nat) (h : F.fn 43) (hro : F.round = none) (w : World) :
    CallsIn F n Tryz.prog 43 #[.pointer none] w fun e w' => e = .returned (.pointer none) ∧ w' = w := by
  refine callsIn_of_wp Tryz.func43 rfl h ?_ hro
  simp only [Tryz.ntmps43, List.size_toArray, List.length_cons, List.length_nil, Nat.reduceAdd, Nat.reduceSub, Array.replicate_succ, Array.replicate_zero, List.push_toArray, List.append_toArray, List.nil_append, List.cons_append]
  gi_wp2
  go_ret
  exact ⟨rfl, rfl⟩
theorem all1_nil (F : Fence) (hF : Hid (F = Fence.wide)) (n : Nat) (h : F.fn 98) (h99 : F.fn 99) (hro : F.round = none) (hn : 1 ≤ n) (Bt n₀ : Nat) (w : World) (hBt : Bt < w.heap.size) (hc : w.cell? ⟨Bt, 0, none⟩ = some (.pointer none)) :
    SeqStopsK F n Tryz.prog 98 #[.pointer (some ⟨Bt, 0, none⟩)] (fun x : Empty => x.elim) (Below n₀) (fun _ => True) (fun _ => False) 0 w := fun l J Jx W hW _ _ _ h0 => by
  have wn : Hid (∀ w, CallsIn F (n - 1) Tryz.prog 99 #[.pointer none, .func (.yield l) #[] #[]] w fun e w' => e = .returned (.bool true) ∧ w' = w) := by
    have h := hF.out
    rw [h]
    exact fun w => callsIn_wide.2 (walk_nil l w)
  have hc' : W.cell? ⟨Bt, 0, none⟩ = some (.pointer none) := (hW.cell (p := ⟨Bt, 0, none⟩) hBt).trans hc
  refine callsIn_of_wp Tryz.func98 rfl h ?_ hro
  simp only [Tryz.ntmps98, List.size_toArray, List.length_cons, List.length_nil, Nat.reduceAdd, Nat.reduceSub, Array.replicate_succ, Array.replicate_zero, List.push_toArray, List.append_toArray, List.nil_append, List.cons_append]
  gi_wp2_with (gi_at_call 99; refine (wn.out _).mono ?_; rintro e w' ⟨rfl, rfl⟩)
  go_end0
  exact ⟨⟨_, rfl⟩, .inl ⟨[], trivial, h0⟩⟩

set_option maxRecDepth 100000 in
set_option maxHeartbeats 2000000 in
theorem names_nil_in (F : Fence) (hF : Hid (F = Fence.wide)) (n : Nat) (h46 : F.fn 46) (h43 : F.fn 43) (h50 : F.fn 50) (h98 : F.fn 98) (h99 : F.fn 99) (hro : F.round = none) (hn : 4 ≤ n) (gf : Fn) (ga gc : Array Value) (w : World) :
    CallsIn F n Tryz.prog 46 #[.pointer none, .func gf ga gc] w fun e W' => e = .returned (.slice none 0 0) ∧ Below w.heap.size w W' := by
  have h1 : 1 ≤ n := by omega
  refine callsIn_of_wp_marks Tryz.func46 rfl h46 ?_ hro
  simp only [Tryz.ntmps46, List.size_toArray, List.length_cons, List.length_nil, Nat.reduceAdd, Nat.reduceSub, Array.replicate_succ, Array.replicate_zero, List.push_toArray, List.append_toArray, List.nil_append, List.cons_append]
  gi_wp2_with (first
    | (gi_at_call 43; refine (tree_in F (n - 1) h43 hro _).mono ?_; rintro e w' ⟨rfl, rfl⟩)
    | (gi_at_call 50; refine (all_in F (n - 1) h50 hro _ _).mono ?_; rintro e w' ⟨rfl, rfl⟩))
  obtain ⟨w5, hw5⟩ : ∃ w5, w5 = (((w.alloc (.cells #[.func gf ga gc] 93)).alloc (.cells #[.slice none 0 0] 37)).alloc (.cells #[.pointer none] 85)) := ⟨_, rfl⟩
  have hB0 : Below w.heap.size w w5 := by rw [hw5]; exact (((Below.refl _ w).alloc (Nat.le_refl _) _).alloc (by simp) _).alloc (by simp; omega) _
  have b1 : Blk w5 (w.heap.size + 1) [.slice none 0 0] 37 := by
    have h := (Blk.new (w.alloc (.cells #[.func gf ga gc] 93)) [.slice none 0 0] 37).alloc (.cells #[.pointer none] 85)
    rw [World.size_alloc] at h
    rw [hw5]; exact h
  have b2 : Blk w5 (w.heap.size + 1 + 1) [.pointer none] 85 := by
    have h := Blk.new ((w.alloc (.cells #[.func gf ga gc] 93)).alloc (.cells #[.slice none 0 0] 37)) [.pointer none] 85
    rw [World.size_alloc, World.size_alloc] at h
    rw [hw5]; exact h
  have hsz : w5.heap.size = w.heap.size + 3 := by rw [hw5]; simp
  rw [← hw5]
  clear hw5
  refine wpIn_rangeFunc_ownF hro h1 (gf := 98) (lb := #[.pointer (some ⟨w.heap.size + 1 + 1, 0, none⟩)]) rfl h98 (enters_of Tryz.func98 (by kernel_rfl) rfl)
    (all1_nil F hF (n - 1) h98 h99 hro (by omega) (w.heap.size + 1 + 1) w.heap.size w5 (by omega) (b2.cell 0 rfl)) belowK_t (belowK_b (by omega)) (Below.refl _ _) (fun x => x.elim)
    (fun _ W => W.cell? ⟨w.heap.size + 1, 0, none⟩ = some (.slice none 0 0) ∧ Below w.heap.size w W)
    (fun _ _ _ => False)
    (OwnFrom.and (Own.from (fun _ _ _ _ hs hg hr => cell_kept hs hg hr) _) (ownFrom_below (Nat.le_refl _) (by omega)))
    (fun _ _ _ _ _ hs _ _ => hs)
    ⟨b1.cell 0 rfl, hB0⟩
    (fun x => x.elim) ?assign ?body ?done ?stop
  case assign => exact fun _ x => x.elim
  case body => exact fun _ _ x => x.elim
  case done =>
    rintro D ys W hD - ⟨hc, hB⟩ hK
    gi_wp2
    refine ⟨by simp, .inl ⟨_, _, rfl, run_takeDeferred hK, ?_⟩⟩
    exact ⟨_, results_tmp rfl _ _ _, rfl, hB.trans (belowK_b (w := w) (Nat.le_refl _) W D _ _ (by omega) hK rfl rfl)⟩
  case stop => exact fun _ _ _ _ _ h => h.elim

theorem names_nil (gf : Fn) (ga gc : Array Value) (w : World) : Calls Tryz.prog 46 #[.pointer none, .func gf ga gc] w fun e w' => e = .returned (.slice none 0 0) ∧ Below w.heap.size w w' :=
  (callsIn_wide (n := 4)).1 (names_nil_in Fence.wide (Lib.hid rfl) 4 trivial trivial trivial trivial trivial rfl (by omega) gf ga gc w)
theorem namesS_nil (w : World) : Calls Tryz.prog 36 #[.pointer none] w fun e w' => e = .returned (.slice none 0 0) ∧ Below w.heap.size w w' := by
  go_enter Tryz.func36, Tryz.ntmps36
  go_wp2_with (go_at_call 46; (with_reducible refine (names_nil _ _ _ _).mono ?_); rintro e w1 ⟨rfl, hb⟩)
  go_ret
  exact ⟨rfl, hb⟩
theorem kindS_nil (k : Int) (w : World) : Calls Tryz.prog 18 #[.pointer none, .int .i64 k] w fun e w' => e = .returned (.slice none 0 0) ∧ Below w.heap.size w w' := by
  have X := Lib.hid (bel1 w (.cells #[.int .i64 k] 3))
  go_enter Tryz.func18, Tryz.ntmps18
  go_wp2_with (go_at_call 46; (with_reducible refine (names_nil _ _ _ _).mono ?_); rintro e w1 ⟨rfl, hb⟩)
  go_ret
  exact ⟨rfl, bel_then X.out (by simp) hb⟩
end Go.Proofs.YtapkboadkbnjaaaGreatDoor
