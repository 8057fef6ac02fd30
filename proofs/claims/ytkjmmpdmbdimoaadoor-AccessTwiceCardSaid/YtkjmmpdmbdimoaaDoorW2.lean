/- More words: look-ups in maps that are written out. -/
import Derived.Test.YtkjmmpdmbdimoaaDoorW1
namespace Go.Own
open Go.RowKit

theorem run_lookup_found {P : Program} {w : World} {t k e : TypeId} {d : TypeDesc} {r c : Nat} {es : Array MapEntry} {key : Value} (ht : P.underlying t = some (.map k e)) (hk : P.underlying k = some d) (h : MapIs w r es c)
    (hck : ∀ b w', (Instr.checkKey b 10000 k key).run P w' = .ok () w') {i : Nat} {v : Value} (hf : Instr.findNow d key es.toList 0 = some (some (i, v))) (ok : Bool) :
    (Instr.lookup t (.map (some r)) key ok).run P w = .ok (if ok then .tuple #[v, .bool true] else v) w := by
  unfold MapIs at h
  simp [Instr.lookup, run_underlying ht, MapKept.run_getObj_map h, hck, run_findKey_now hk hf, Result.andThen]
theorem run_lookup_none {P : Program} {w : World} {t k e : TypeId} {d : TypeDesc} {r c : Nat} {es : Array MapEntry} {key : Value} (ht : P.underlying t = some (.map k e)) (hk : P.underlying k = some d) (h : MapIs w r es c)
    (hck : ∀ b w', (Instr.checkKey b 10000 k key).run P w' = .ok () w') {z : Value} (hz : ∀ w', (zeroValue e).run P w' = .ok z w') (hf : Instr.findNow d key es.toList 0 = some none) (ok : Bool) :
    (Instr.lookup t (.map (some r)) key ok).run P w = .ok (if ok then .tuple #[z, .bool false] else z) w := by
  unfold MapIs at h
  simp [Instr.lookup, run_underlying ht, MapKept.run_getObj_map h, hck, hz, run_findKey_now hk hf, Result.andThen]
theorem MapIs.drewN {w : World} {r : Nat} {es : Array MapEntry} {c : Nat} (h : MapIs w r es c) (n : Nat) : MapIs (w.drewN n) r es c := h

theorem wpList_insert_at {P : Program} {w : World} {ops : Array Oper} {rest : List Oper} {dst : Option Tmp} {ty : TypeId} {pos : String} {after : Array Edge} {a : Act} {Q : Exit → Act → World → Prop}
    {m x v : Operand} {t : TypeId}
    (k e : TypeId) (d : TypeDesc) (ht : P.underlying t = some (.map k e)) (hk : P.underlying k = some d) {es : Array MapEntry} {c : Nat}
    {r : Nat} (hm : a.eval m = .map (some r)) (hr : r = w.heap.size) {key val : Value} (hx : a.eval x = key) (hv : a.eval v = val)
    (hck : ∀ w', (Instr.checkKey false 10000 k key).run P w' = .ok () w') (hno : Instr.findNow d key es.toList 0 = some none)
    (hK : wpList P ops Q rest (a.put dst undef) (w.alloc (.map (es.push { key, val, born := c }) (c + 1)))) :
    wpList P ops Q ({ dst := dst, op := .insert t m x v, type := ty, pos := pos, after := after, guard := none } :: rest) a (w.alloc (.map es c)) :=
  wpList_insert_new k e d ht hk (hr ▸ hm) hx hv hck hno hK

/-- A look-up among the operations of a region that only reads. -/
theorem wpQuiet_lookup {P : Program} {ops : Array Oper} {C : World → Prop} {Q : Act → Prop} {rest : List Oper} {a : Act} {dst : Option Tmp} {ty t : TypeId} {pos : String} {after : Array Edge} {m x : Operand} {ok : Bool} {v mv xv : Value}
    (hm : a.eval m = mv) (hx : a.eval x = xv) (hw : Region.wanted { dst := dst, op := .lookup t m x ok, type := ty, pos := pos, after := after, guard := none } (yielded ops a.tmps) = true)
    (h : ∀ w, C w → (Instr.lookup t mv xv ok).run P w = .ok v w) (hK : wpQuiet P ops C Q rest (a.put dst v)) :
    wpQuiet P ops C Q ({ dst := dst, op := .lookup t m x ok, type := ty, pos := pos, after := after, guard := none } :: rest) a := by
  refine Go.BigFrame.wpQuiet_want hw fun K hk => ⟨v, fun w hw => ?_, hk _ hK⟩
  simp [Oper.quietAt, execOp, hm, hx, h w hw, Result.andThen, Oper.quietUpon]

end Go.Own
