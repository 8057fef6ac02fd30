/- What the rows of this seat have in common: the listed variable, a world that meets the condition, the arguments opened. -/
import Derived.Test.YtkjmmpdmbdimoaaDoorA2
import Derived.Test.YtkjmmpdmbdimoaaDoorRows
import Derived.Test.YtkjmmpdmbdimoaaDoorTie
import Derived.Test.YtkjmmpdmbdimoaaDoorCards
import Derived.ProofKit
import Derived.Handed
import Derived.Lay
import Derived.Lib.SmallJoins
import Derived.ChangeSlices
import Derived.ChangeVars
namespace Go.Proofs.YtkjmmpdmbdimoaaDoor
open Go.ChangeShapes Go.WideShapes Go.ChangeAt Go.RowKit Go.Lib Go.Joins

theorem rc_own : ownKnob Tryd.prog.godebug = none := by kernel_rfl
theorem rc_laidOut : laidOutB Tryd.prog = true := by kernel_rfl
theorem rc_sh : Tryd.prog.globalNamed "replevin/access.shifts" = some 0 := by kernel_rfl
theorem rc_shType : (Tryd.prog.globals[0]?).map (·.type) = some 67 := by kernel_rfl
theorem rc_cells67 : Tryd.prog.cellsOf 67 = 3 := by kernel_rfl
theorem rc_cells3 : Tryd.prog.cellsOf 3 = 1 := by kernel_rfl
theorem rc_cells5 : Tryd.prog.cellsOf 5 = 1 := by kernel_rfl
theorem rc_cells24 : Tryd.prog.cellsOf 24 = 2 := by kernel_rfl
theorem rc_cells26 : Tryd.prog.cellsOf 26 = 3 := by kernel_rfl
theorem rc_cells27 : Tryd.prog.cellsOf 27 = 2 := by kernel_rfl

/-- One integer, read from a row. -/
theorem rc_int {H : Type} {enc : TypeId × Value → H} {P : Program} {w : World} {base : Nat} {sp : Nat → Bool} {held : Bool} {fuel : Nat} {t : TypeId} {k : IntKind} {c : Value} {y : DataW H × List MemPlace}
    (ht : P.underlying t = some (.int k)) (h : DataW.trod enc P w base sp held fuel t [c] = some y) : ∃ n, c = .int k n ∧ y = (.lit (.int k n), []) ∧ (Lit.int k n).wf = true := by
  cases fuel with
  | zero => simp [DataW.trod] at h
  | succ fuel =>
    cases c <;> simp [DataW.trod, ht] at h
    rename_i k' n
    obtain ⟨⟨rfl, hw⟩, rfl⟩ := h
    exact ⟨n, rfl, rfl, hw⟩

/-- What the condition gives a walk: the three shifts. -/
theorem shifts_of_laid {W : World} (h : laidMet Tryd.prog [("replevin/access.shifts", Rows.laid_replevin_access_shifts)] W) : Shifts W := by
  obtain ⟨ps, ⟨g, t, cs, fuel, p, q, hg, ht, hvar, hd, _, _⟩, _⟩ := h
  obtain rfl := Option.some.inj (rc_sh.symm.trans hg)
  obtain rfl := Option.some.inj (rc_shType.symm.trans ht)
  have key : ∀ l : List Value, DataW.trod (fun _ => ()) Tryd.prog W 0 (fun _ => true) false fuel 67 l = some (Rows.laid_replevin_access_shifts, p) → l = [.int .i64 6, .int .i64 3, .int .i64 0] := by
    intro l hd
    cases fuel with
    | zero => simp [DataW.trod] at hd
    | succ fuel =>
      simp only [DataW.trod, Tryd.underlying67, rc_cells67, rc_cells3] at hd
      split at hd
      · rename_i hl
        obtain ⟨c0, c1, c2, rfl⟩ : ∃ c0 c1 c2, l = [c0, c1, c2] := by
          match l, hl with
          | [a, b, c], _ => exact ⟨a, b, c, rfl⟩
        have e : List.range 3 = [0, 1, 2] := rfl
        rw [e] at hd
        simp only [Option.map_eq_some_iff, List.mapM_cons, List.mapM_nil, Option.bind_eq_bind, Option.bind_eq_some_iff, Option.pure_def, Option.some.injEq] at hd
        obtain ⟨xs, ⟨y0, h0, _, ⟨y1, h1, _, ⟨y2, h2, _, rfl, rfl⟩, rfl⟩, rfl⟩, hx⟩ := hd
        obtain ⟨n0, rfl, rfl, _⟩ := rc_int Tryd.underlying3 h0
        obtain ⟨n1, rfl, rfl, _⟩ := rc_int Tryd.underlying3 h1
        obtain ⟨n2, rfl, rfl, _⟩ := rc_int Tryd.underlying3 h2
        simp [Rows.laid_replevin_access_shifts] at hx
        obtain ⟨⟨rfl, rfl, rfl⟩, _⟩ := hx
        rfl
      · cases hd
  have hl := key cs.toList hd
  have e : cs = #[.int .i64 6, .int .i64 3, .int .i64 0] := by cases cs; simpa using hl
  subst e
  have c0 := World.var?_cell hg hvar 0
  have c1 := World.var?_cell hg hvar 1
  have c2 := World.var?_cell hg hvar 2
  refine ⟨?_, by simpa using c0, by simpa using c1, by simpa using c2⟩
  by_cases hz : 0 < W.heap.size
  · exact hz
  · exfalso
    have : W.heap[0]? = none := Array.getElem?_eq_none (by omega)
    have hc : W.cell? ⟨0, 0, none⟩ = none := by simp only [World.cell?, this]
    rw [hc] at c0
    simp at c0

noncomputable def rcWorld (os : Os) : World := World.laidAll Tryd.prog os [("replevin/access.shifts", Rows.laid_replevin_access_shifts)]
theorem rcWorld_met (os : Os) (args : Array Value) : laidMet Tryd.prog [("replevin/access.shifts", Rows.laid_replevin_access_shifts)] ((rcWorld os).forCall (fun _ _ => 0) ⟨#[], args, []⟩).memory :=
  laidMet_laidAll args (by kernel_rfl) (by kernel_rfl)

section
variable {H : Type} {enc : TypeId × Value → H} {w : World} {sp : Nat → Bool} {held : Bool}

theorem rc_wf64 {n : Int} (h : (Lit.int .i64 n).wf = true) : True := trivial

theorem open_groups {fuel base : Nat} {v : Value} {y : DataW H × List MemPlace} (h : DataW.trod enc Tryd.prog w base (fun _ => true) held fuel 22 [v] = some y) :
    ∃ a n c gs, v = .slice a n c ∧ Ints w a n gs ∧ n ≤ c ∧ c ≤ 9223372036854775807 := by
  rcases open_ints Tryd.underlying22 Tryd.underlying3 rc_cells3 h with ⟨hcs, _⟩ | ⟨x, l, c, zs, hcs, _, hl, hm, hz, _, hcell, hwz⟩
  · simp at hcs
    exact ⟨none, 0, 0, [], hcs, ⟨rfl, by omega, fun j hj => absurd hj (by omega)⟩, by omega, by omega⟩
  · simp at hcs
    have hm' : c ≤ 9223372036854775807 := hm
    have hz' : zs.length = c := by simpa using hz
    refine ⟨some x, l, c, zs.take l, hcs, ⟨by simp; omega, by omega, fun j hj => ?_⟩, hl, hm'⟩
    have hc := hcell j (by omega)
    obtain ⟨b, off, spot⟩ := x
    have hspot : spot = none := by simpa [Addr.add] using World.cell?_spot (hcell 0 (by omega))
    subst hspot
    refine ⟨b, off, rfl, ?_⟩
    rw [List.getElem?_take, if_pos hj, ← List.getD_eq_getElem?_getD]
    by_cases h0 : j = 0
    · subst h0
      simpa [Addr.add] using hc
    · simpa [Addr.add, h0] using hc

theorem open_id {r : Reach} {b0 base : Nat} {v : Value} {d : DataW H} {p : List MemPlace} (hv : Value.okWide Tryd.prog w r b0 24 v) (h : DataW.Trod enc Tryd.prog w base (fun _ => true) held 24 v d p) :
    ∃ u a n c gs, v = .agg #[.int .i64 u, .slice a n c] ∧ Ints w a n gs ∧ n ≤ c ∧ c ≤ 9223372036854775807 ∧ (Lit.int .i64 u).wf = true := by
  obtain ⟨v0, v1, y0, y1, n, rfl, _, _, h0, h1⟩ := open_agg2 Tryd.underlying24 (by kernel_rfl) rc_cells24 hv h
  obtain ⟨u, rfl, _, hw⟩ := rc_int Tryd.underlying3 h0
  obtain ⟨a, n, c, gs, rfl, hi, hl, hm⟩ := open_groups h1
  exact ⟨u, a, n, c, gs, rfl, hi, hl, hm, hw⟩

theorem open_file {r : Reach} {b0 base : Nat} {v : Value} {d : DataW H} {p : List MemPlace} (hv : Value.okWide Tryd.prog w r b0 26 v) (h : DataW.Trod enc Tryd.prog w base sp held 26 v d p) :
    ∃ fo fg m, v = .agg #[.int .i64 fo, .int .i64 fg, .int .i64 m] ∧ (Lit.int .i64 fo).wf = true ∧ (Lit.int .i64 fg).wf = true ∧ (Lit.int .i64 m).wf = true := by
  obtain ⟨v0, v1, v2, y0, y1, y2, n, rfl, _, _, h0, h1, h2⟩ := open_agg3 Tryd.underlying26 (by kernel_rfl) rc_cells26 hv h
  obtain ⟨a, rfl, _, ha⟩ := rc_int Tryd.underlying3 h0
  obtain ⟨b, rfl, _, hb⟩ := rc_int Tryd.underlying3 h1
  obtain ⟨c, rfl, _, hc⟩ := rc_int Tryd.underlying3 h2
  exact ⟨a, b, c, rfl, ha, hb, hc⟩

theorem open_want {r : Reach} {b0 base : Nat} {v : Value} {d : DataW H} {p : List MemPlace} (hv : Value.okWide Tryd.prog w r b0 27 v) (h : DataW.Trod enc Tryd.prog w base sp held 27 v d p) :
    ∃ x y, v = .agg #[.int .u8 x, .int .u8 y] ∧ 0 ≤ x ∧ x ≤ 255 ∧ 0 ≤ y ∧ y ≤ 255 := by
  simp only [Value.okWide, Tryd.underlying27] at hv
  obtain ⟨cs, rfl, hsz, _⟩ := hv
  obtain ⟨c0, c1, rfl⟩ := array2 (hsz.trans rc_cells27)
  obtain ⟨fuel, hf⟩ := h
  have hf' : DataW.trod enc Tryd.prog w base sp held fuel 27 [c0, c1] = some (d, p) := hf
  obtain ⟨xs, m, _, _, _, hl, hx⟩ := DataW.trod_array Tryd.underlying27 hf'
  have h0 := hx 0 (by omega)
  have h1 := hx 1 (by omega)
  rw [rc_cells5] at h0 h1
  match xs, hl with
  | [y0, y1], _ =>
    obtain ⟨a, rfl, _, ha⟩ := rc_int (y := y0) Tryd.underlying5 (by simpa using h0)
    obtain ⟨b, rfl, _, hb⟩ := rc_int (y := y1) Tryd.underlying5 (by simpa using h1)
    simp only [Lit.wf, Bool.and_eq_true, decide_eq_true_eq] at ha hb
    have e0 : IntKind.u8.min = 0 := rfl
    have e1 : IntKind.u8.max = 255 := rfl
    rw [e0, e1] at ha hb
    exact ⟨a, b, rfl, ha.1, ha.2, hb.1, hb.2⟩
end
end Go.Proofs.YtkjmmpdmbdimoaaDoor
