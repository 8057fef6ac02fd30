/- Encode and Digest of a nil state. -/
import Derived.Test.YtapkboadkbnjaaaGreatDoorP4
namespace Go.Proofs.YtapkboadkbnjaaaGreatDoor
open Go.RowKit Go.Own

set_option maxRecDepth 100000 in
theorem encode_nil (w : World) : Calls Tryz.prog 30 #[.pointer none] w fun e w' => e = .returned (.slice none 0 0) ∧ w = w' := by
  go_enter Tryz.func30, Tryz.ntmps30
  go_wp2
  go_ret
  exact ⟨rfl, rfl⟩

def zero32 : List Value := [.int .u8 0, .int .u8 0, .int .u8 0, .int .u8 0, .int .u8 0, .int .u8 0, .int .u8 0, .int .u8 0, .int .u8 0, .int .u8 0, .int .u8 0, .int .u8 0, .int .u8 0, .int .u8 0, .int .u8 0, .int .u8 0, .int .u8 0, .int .u8 0, .int .u8 0, .int .u8 0, .int .u8 0, .int .u8 0, .int .u8 0, .int .u8 0, .int .u8 0, .int .u8 0, .int .u8 0, .int .u8 0, .int .u8 0, .int .u8 0, .int .u8 0, .int .u8 0]
theorem z_there (w : World) : (w.alloc (.cells #[.int .u8 0, .int .u8 0, .int .u8 0, .int .u8 0, .int .u8 0, .int .u8 0, .int .u8 0, .int .u8 0, .int .u8 0, .int .u8 0, .int .u8 0, .int .u8 0, .int .u8 0, .int .u8 0, .int .u8 0, .int .u8 0, .int .u8 0, .int .u8 0, .int .u8 0, .int .u8 0, .int .u8 0, .int .u8 0, .int .u8 0, .int .u8 0, .int .u8 0, .int .u8 0, .int .u8 0, .int .u8 0, .int .u8 0, .int .u8 0, .int .u8 0, .int .u8 0] 75)).there w.heap.size 0 32 := fun j hj => by
  have h1 := heap_alloc_new w (.cells zero32.toArray 75)
  have h2 : (w.alloc (.cells #[.int .u8 0, .int .u8 0, .int .u8 0, .int .u8 0, .int .u8 0, .int .u8 0, .int .u8 0, .int .u8 0, .int .u8 0, .int .u8 0, .int .u8 0, .int .u8 0, .int .u8 0, .int .u8 0, .int .u8 0, .int .u8 0, .int .u8 0, .int .u8 0, .int .u8 0, .int .u8 0, .int .u8 0, .int .u8 0, .int .u8 0, .int .u8 0, .int .u8 0, .int .u8 0, .int .u8 0, .int .u8 0, .int .u8 0, .int .u8 0, .int .u8 0, .int .u8 0] 75)) = w.alloc (.cells zero32.toArray 75) := by unfold zero32; rfl
  rw [h2]
  have hl : zero32.length = 32 := by decide
  refine ⟨?_, ?_⟩
  · rw [Nat.zero_add]
    simp only [World.cell?, h1]
    simp [hl, hj]
  · unfold World.frozen?
    rw [h1]
    simp
theorem zsize : zero32.toArray.size = 32 := by decide
theorem info75 : (Tryz.prog.info? 75).map (·.size) = some 32 := by kernel_rfl
theorem zero_one : zero32.toArray.all (·.oneCell') = true := by decide +kernel
theorem wpList_build75 {ops : Array Oper} {rest : List Oper} {dst : Option Tmp} {pos : String} {after : Array Edge} {a : Act} {w : World} {Q : Exit → Act → World → Prop}
    (h : wpList Tryz.prog ops Q rest (a.put dst (.agg zero32.toArray)) w) :
    wpList Tryz.prog ops Q ({ dst := dst, op := .build 75 #[], type := 75, pos := pos, after := after, guard := none } :: rest) a w := by
  refine wpList_plain rfl fun K hK => ?_
  unfold Oper.wp
  rw [show (execOp a.eval { dst := dst, op := .build 75 #[], type := 75, pos := pos, after := after, guard := none }).run Tryz.prog w = .ok (.value (.agg zero32.toArray)) w from by kernel_rfl]
  exact hK _ _ h

set_option maxRecDepth 100000 in
set_option maxHeartbeats 2000000 in
theorem digest_nil (w : World) : Calls Tryz.prog 37 #[.pointer none] w fun e w' => e = .returned (.agg zero32.toArray) ∧ Below w.heap.size w w' := by
  go_enter Tryz.func37, Tryz.ntmps37
  go_upto_region 2 with fail
  generalize hW1 : w.alloc _ = W1
  have hB1 : Below w.heap.size w W1 := by rw [← hW1]; exact bel1 _ _
  have hth : W1.there w.heap.size 0 zero32.toArray.size := by
    rw [← hW1, zsize]
    exact z_there w
  clear hW1
  have hr := World.rangeAt_setCells_same W1 w.heap.size 0 zero32 hth
  have hl := run_loadVar_mid (P := Tryz.prog) _ w.heap.size 0 75 zero32 _ hr Tryz.underlying75 rfl info75
  have hB := below_setCells w.heap.size w.heap.size (Nat.le_refl _) zero32 0 w _ hB1
  have HL := Lib.hid hl
  have HB := Lib.hid hB
  have HT := Lib.hid hth
  clear hr hl hB hth hB1
  apply wp_region_list
  refine wpList_build75 ?_
  refine wpList_store_mid rfl 75 _ _ rfl w.heap.size 0 zero32.toArray (by rfl) (by rfl) HT.out info75 zero_one ?_
  show wpList _ _ _ _ _ (W1.setCells w.heap.size 0 zero32)
  obtain ⟨W, hW⟩ : ∃ W, W = W1.setCells w.heap.size 0 zero32 := ⟨_, rfl⟩
  rw [← hW] at HL HB ⊢
  clear hW HT
  go_wp2
  exact bodyPost_ret (results_cell Tryz.results37 (by rfl) HL.out) rfl ⟨rfl, HB.out⟩
end Go.Proofs.YtapkboadkbnjaaaGreatDoor
