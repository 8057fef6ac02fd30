/- object.uses: what the kinds use. -/
import Derived.Test.YtapkboadkbnjaaaGreatDoorP3
import Derived.Deep.MidRow
namespace Go.Proofs.YtapkboadkbnjaaaGreatDoor
open Go.RowKit Go.Own

/-- What the kinds use, cell by cell. -/
def usesL : List Value := [
  .string ⟨#[]⟩, .bool false, .bool false, .bool false, .int .i64 0,
  .string ⟨#[112, 114, 111, 99, 101, 115, 115]⟩, .bool true, .bool false, .bool false, .int .i64 (-1),
  .string ⟨#[114, 101, 103, 105, 115, 116, 101, 114, 115]⟩, .bool true, .bool false, .bool false, .int .i64 (-1),
  .string ⟨#[112, 97, 103, 101]⟩, .bool true, .bool false, .bool false, .int .i64 63,
  .string ⟨#[116, 97, 98, 108, 101]⟩, .bool true, .bool false, .bool false, .int .i64 (-1),
  .string ⟨#[99, 111, 117, 110, 116, 101, 114]⟩, .bool true, .bool false, .bool false, .int .i64 (-1),
  .string ⟨#[112, 101, 110, 100, 105, 110, 103]⟩, .bool true, .bool false, .bool false, .int .i64 (-1),
  .string ⟨#[110, 111, 100, 101]⟩, .bool true, .bool true, .bool false, .int .i64 (-1),
  .string ⟨#[98, 108, 111, 99, 107]⟩, .bool true, .bool true, .bool false, .int .i64 63,
  .string ⟨#[101, 110, 116, 114, 121]⟩, .bool true, .bool true, .bool true, .int .i64 (-1),
  .string ⟨#[108, 105, 115, 116, 105, 110, 103]⟩, .bool true, .bool true, .bool false, .int .i64 (-1),
  .string ⟨#[112, 105, 112, 101]⟩, .bool true, .bool true, .bool false, .int .i64 (-1),
  .string ⟨#[108, 111, 99, 107]⟩, .bool true, .bool true, .bool false, .int .i64 (-1),
  .string ⟨#[116, 101, 114, 109, 105, 110, 97, 108]⟩, .bool false, .bool true, .bool false, .int .i64 (-1),
  .string ⟨#[97, 99, 99, 111, 117, 110, 116]⟩, .bool false, .bool false, .bool true, .int .i64 (-1),
  .string ⟨#[99, 108, 111, 99, 107]⟩, .bool false, .bool false, .bool false, .int .i64 (-1),
  .string ⟨#[112, 111, 114, 116]⟩, .bool false, .bool true, .bool false, .int .i64 (-1),
  .string ⟨#[98, 111, 120]⟩, .bool false, .bool false, .bool true, .int .i64 (-1),
  .string ⟨#[111, 117, 116]⟩, .bool true, .bool true, .bool false, .int .i64 1073741824,
  .string ⟨#[115, 104, 101, 108, 108]⟩, .bool true, .bool false, .bool false, .int .i64 (-1),
  .string ⟨#[101, 112, 111, 99, 104]⟩, .bool false, .bool false, .bool false, .int .i64 (-1)]
theorem usesL_length : usesL.length = 105 := by decide

theorem below_setCells (B : Nat) (b : Nat) (hb : B ≤ b) : ∀ (vs : List Value) (o : Nat) (w0 w : World), Below B w0 w → Below B w0 (w.setCells b o vs)
  | [], _, _, _, h => h
  | v :: r, o, w0, w, h => below_setCells B b hb r (o + 1) w0 _ (h.setCell (p := ⟨b, o, none⟩) hb v)
theorem zero117 : Tryz.zeroCells117.size = 105 := by kernel_rfl
theorem uses_there (w : World) : (w.alloc (.cells Tryz.zeroCells117 117)).there w.heap.size 0 105 := fun j hj => by
  have h1 := heap_alloc_new w (.cells Tryz.zeroCells117 117)
  have hs : j < Tryz.zeroCells117.size := by rw [zero117]; exact hj
  refine ⟨?_, ?_⟩
  · rw [Nat.zero_add]
    simp only [World.cell?, h1]
    simp [hj]
  · unfold World.frozen?
    rw [h1]
    simp
theorem results_cell {P : Program} {fn : Func} {tmps : Array Value} {a : Nat} {t : TypeId} {p : Addr} {v : Value} {w : World} (hres : fn.results = #[.cell a t]) (hp : tmps.getD a undef = .pointer (some p)) (hl : (loadVar t p).run P w = .ok v w) :
    (results fn tmps).run P w = .ok v w := by
  have hp' : tmps[a]?.getD undef = .pointer (some p) := by simpa using hp
  simp [results, hres, hp', hl, asAddr, Sem.run_bind, Result.andThen]
theorem info117 : (Tryz.prog.info? 117).map (·.size) = some 105 := by kernel_rfl
theorem uses_one : usesL.toArray.all (·.oneCell') = true := by decide +kernel

set_option maxRecDepth 100000 in
set_option maxHeartbeats 4000000 in
theorem uses_calls (w : World) : Calls Tryz.prog 60 #[] w fun e w' => e = .returned (.agg usesL.toArray) ∧ Below w.heap.size w w' := by
  go_enter Tryz.func60, Tryz.ntmps60
  go_wp2_with (refine wpList_store_mid rfl 117 _ _ rfl w.heap.size 0 usesL.toArray (by rfl) (by rfl) (uses_there w) info117 uses_one ?_)
  have hr := World.rangeAt_setCells_same (w.alloc (.cells Tryz.zeroCells117 117)) w.heap.size 0 usesL (uses_there w)
  have hl := run_loadVar_mid (P := Tryz.prog) _ w.heap.size 0 117 usesL _ hr Tryz.underlying117 rfl info117
  have hB := below_setCells w.heap.size w.heap.size (Nat.le_refl _) usesL 0 w _ (bel1 w (.cells Tryz.zeroCells117 117))
  obtain ⟨W, hW⟩ : ∃ W, W = (w.alloc (.cells Tryz.zeroCells117 117)).setCells w.heap.size 0 usesL := ⟨_, rfl⟩
  rw [← hW] at hr hl hB
  rw [← hW]
  exact bodyPost_ret (results_cell Tryz.results60 (by rfl) hl) rfl ⟨rfl, hB⟩
end Go.Proofs.YtapkboadkbnjaaaGreatDoor
