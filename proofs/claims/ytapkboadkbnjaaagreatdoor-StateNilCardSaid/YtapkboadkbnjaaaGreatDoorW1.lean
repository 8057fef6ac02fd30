/- Words of this session on blocks and on maps that are written out. -/
import Derived.WalkKit
import Derived.WalkSpells
import Derived.WalkLawsBesides
import Derived.Lib.Hide
import Derived.Deep.CutBlock
import Derived.Deep.DeepCutAuto
import Derived.Deep.DeepFit
import Derived.Deep.QuietTactic
import Derived.BigQuiet
import Derived.Handy
import Derived.Maps.Keyed
namespace Go.Own
open Go.RowKit

/-- The block b holds these cells and is not frozen. -/
def Blk (w : World) (b : Nat) (cs : List Value) (t : TypeId) : Prop := w.heap[b]? = some (.cells cs.toArray t (0, 0))

theorem Blk.lt {w : World} {b : Nat} {cs : List Value} {t : TypeId} (h : Blk w b cs t) : b < w.heap.size := lt_of_block h
theorem Blk.cell {w : World} {b : Nat} {cs : List Value} {t : TypeId} (h : Blk w b cs t) (k : Nat) {v : Value} (hk : cs[k]? = some v) : w.cell? ⟨b, k, none⟩ = some v := by
  unfold Blk at h
  simp [World.cell?, h, hk]
theorem Blk.free {w : World} {b : Nat} {cs : List Value} {t : TypeId} (h : Blk w b cs t) (k : Nat) : w.frozen? ⟨b, k, none⟩ = false := by
  unfold Blk at h
  simp [World.frozen?, h]
theorem Blk.new (w : World) (cs : List Value) (t : TypeId) : Blk (w.alloc (.cells cs.toArray t)) w.heap.size cs t := heap_alloc_new w _
theorem Blk.alloc {w : World} {b : Nat} {cs : List Value} {t : TypeId} (h : Blk w b cs t) (o : Obj) : Blk (w.alloc o) b cs t := (Below.heap_alloc w o b h.lt).trans h
theorem Blk.set {w : World} {b : Nat} {cs : List Value} {t : TypeId} (h : Blk w b cs t) (k : Nat) (v : Value) : Blk (w.setCell ⟨b, k, none⟩ v) b (cs.set k v) t := by
  unfold Blk at *
  have hlt := lt_of_block h
  have h' : w.heap[b] = .cells cs.toArray t (0, 0) := by simpa [Array.getElem?_eq_getElem hlt] using h
  show (w.heap.modify b _)[b]? = _
  rw [Array.getElem?_eq_getElem (by simpa using hlt), Array.getElem_modify_self, h']
  simp
theorem Blk.other {w : World} {b : Nat} {cs : List Value} {t : TypeId} (h : Blk w b cs t) {a : Addr} (ha : b ≠ a.block) (v : Value) : Blk (w.setCell a v) b cs t := (Below.heap_setCell w a v b ha).trans h
theorem Blk.below {w w1 : World} {b B : Nat} {cs : List Value} {t : TypeId} (h : Blk w b cs t) (hb : Below B w w1) (hB : b < B) : Blk w1 b cs t := (hb.block b hB).trans h
theorem Blk.grown {w w1 : World} {b : Nat} {cs : List Value} {t : TypeId} {row : Option Nat} (h : Blk w b cs t) (hg : w.grownBy w1 row) (hne : some b ≠ row) : Blk w1 b cs t := (hg.block b h.lt hne).trans h
theorem Blk.drew {w : World} {b : Nat} {cs : List Value} {t : TypeId} (h : Blk w b cs t) : Blk w.drew b cs t := h

/-- The block r is a map with these entries. -/
def MapIs (w : World) (r : Nat) (es : Array MapEntry) (c : Nat) : Prop := w.heap[r]? = some (.map es c)
theorem MapIs.new (w : World) (es : Array MapEntry) (c : Nat) : MapIs (w.alloc (.map es c)) w.heap.size es c := heap_alloc_new w _
theorem MapIs.alloc {w : World} {r : Nat} {es : Array MapEntry} {c : Nat} (h : MapIs w r es c) (o : Obj) : MapIs (w.alloc o) r es c := (Below.heap_alloc w o r (lt_of_block h)).trans h

theorem run_findKey_now {P : Program} {k : TypeId} {d : TypeDesc} (hk : P.underlying k = some d) {x : Value} {es : List MapEntry} {r : Option (Nat × Value)} (h : Instr.findNow d x es 0 = some r) (w : World) :
    (Instr.findKey k x es).run P w = .ok r w := by
  simp [Instr.findKey, run_underlying hk, h]

theorem push_set (h : Array Obj) (o o' : Obj) : (h.push o).setIfInBounds h.size o' = h.push o' := by
  apply Array.ext_getElem?
  intro i
  rw [Array.getElem?_setIfInBounds, Array.getElem?_push, Array.getElem?_push]
  by_cases e : h.size = i
  · subst e
    simp
  · have e' : ¬ i = h.size := fun x => e x.symm
    simp [e, e']
theorem set_alloc (w : World) (o o' : Obj) : ({ w.alloc o with heap := (w.alloc o).heap.setIfInBounds w.heap.size o' } : World) = w.alloc o' := by
  show ({ w with heap := (w.heap.push o).setIfInBounds w.heap.size o' } : World) = { w with heap := w.heap.push o' }
  rw [push_set]

/-- A literal's entry, in the map that has just been made: its key is new. -/
theorem wpList_insert_new {P : Program} {w : World} {ops : Array Oper} {rest : List Oper} {dst : Option Tmp} {ty : TypeId} {pos : String} {after : Array Edge} {a : Act} {Q : Exit → Act → World → Prop}
    {m x v : Operand} {t : TypeId}
    (k e : TypeId) (d : TypeDesc) (ht : P.underlying t = some (.map k e)) (hk : P.underlying k = some d) {es : Array MapEntry} {c : Nat}
    (hm : a.eval m = .map (some w.heap.size)) {key val : Value} (hx : a.eval x = key) (hv : a.eval v = val)
    (hck : ∀ w', (Instr.checkKey false 10000 k key).run P w' = .ok () w') (hno : Instr.findNow d key es.toList 0 = some none)
    (hK : wpList P ops Q rest (a.put dst undef) (w.alloc (.map (es.push { key, val, born := c }) (c + 1)))) :
    wpList P ops Q ({ dst := dst, op := .insert t m x v, type := ty, pos := pos, after := after, guard := none } :: rest) a (w.alloc (.map es c)) := by
  refine wpList_plain rfl fun K' hK' => ?_
  have h1 := heap_alloc_new w (.map es c)
  have h2 := fun o => MapKept.run_setObj_map (P := P) o h1
  simp only [set_alloc] at h2
  unfold Oper.wp
  simp [execOp, hm, hx, hv, Instr.mapUpdate, run_underlying ht, MapKept.run_getObj_map h1, h2, hck, run_findKey_now hk hno, Result.andThen]
  exact hK' _ _ hK

/-- A look-up with ok in a map that is written out: an entry is there. -/
theorem wpList_lookup_found {P : Program} {w : World} {ops : Array Oper} {rest : List Oper} {dst : Option Tmp} {ty : TypeId} {pos : String} {after : Array Edge} {a : Act} {Q : Exit → Act → World → Prop}
    {m x : Operand} {t : TypeId} {ok : Bool}
    (k e : TypeId) (d : TypeDesc) (ht : P.underlying t = some (.map k e)) (hk : P.underlying k = some d) {r : Nat} {es : Array MapEntry} {c : Nat}
    (hm : a.eval m = .map (some r)) (hr : MapIs w r es c) {key : Value} (hx : a.eval x = key)
    (hck : ∀ b w', (Instr.checkKey b 10000 k key).run P w' = .ok () w') {i : Nat} {v : Value} (hfind : Instr.findNow d key es.toList 0 = some (some (i, v)))
    (hK : wpList P ops Q rest (a.put dst (if ok then .tuple #[v, .bool true] else v)) w) :
    wpList P ops Q ({ dst := dst, op := .lookup t m x ok, type := ty, pos := pos, after := after, guard := none } :: rest) a w := by
  refine wpList_plain rfl fun K' hK' => ?_
  unfold MapIs at hr
  unfold Oper.wp
  simp [execOp, hm, hx, Instr.lookup, run_underlying ht, MapKept.run_getObj_map hr, hck, run_findKey_now hk hfind, Result.andThen]
  exact hK' _ _ hK

/-- A look-up with ok in a map that is written out: no entry is there. -/
theorem wpList_lookup_none {P : Program} {w : World} {ops : Array Oper} {rest : List Oper} {dst : Option Tmp} {ty : TypeId} {pos : String} {after : Array Edge} {a : Act} {Q : Exit → Act → World → Prop}
    {m x : Operand} {t : TypeId} {ok : Bool}
    (k e : TypeId) (d : TypeDesc) (ht : P.underlying t = some (.map k e)) (hk : P.underlying k = some d) {r : Nat} {es : Array MapEntry} {c : Nat}
    (hm : a.eval m = .map (some r)) (hr : MapIs w r es c) {key : Value} (hx : a.eval x = key)
    (hck : ∀ b w', (Instr.checkKey b 10000 k key).run P w' = .ok () w') (z : Value) (hz : ∀ w', (zeroValue e).run P w' = .ok z w') (hfind : Instr.findNow d key es.toList 0 = some none)
    (hK : wpList P ops Q rest (a.put dst (if ok then .tuple #[z, .bool false] else z)) w) :
    wpList P ops Q ({ dst := dst, op := .lookup t m x ok, type := ty, pos := pos, after := after, guard := none } :: rest) a w := by
  refine wpList_plain rfl fun K' hK' => ?_
  unfold MapIs at hr
  unfold Oper.wp
  simp [execOp, hm, hx, Instr.lookup, run_underlying ht, MapKept.run_getObj_map hr, hck, hz, run_findKey_now hk hfind, Result.andThen]
  exact hK' _ _ hK

theorem own_later {w w1 : World} {base : Nat} {e : TypeId} {size n : Nat} {v : Value} {xs : List Value} (h : w.ownsRow base e size v n xs) (hb : Below w.heap.size w w1) : w1.ownsRow base e size v n xs :=
  h.kept (row := none) ⟨hb.os, hb.tape, hb.output, hb.size, fun i hi _ => hb.block i hi⟩ (by cases v.ownBlock <;> simp)

/-- append of a block's cells to a row of the call's own. -/
theorem wpList_append1 {P : Program} {w : World} {ops : Array Oper} {rest : List Oper} {dst : Option Tmp} {ty : TypeId} {pos : String} {after : Array Edge} {a : Act} {Q : Exit → Act → World → Prop}
    {s x : Operand} {t : TypeId} (base e size bytes : Nat) (z : Value) (ht : P.underlying t = some (.slice e)) (hinfo : (P.info? e).map (fun i => (i.zero, i.size, i.bytes)) = some (some z, size, bytes)) (hzs : z.cells.size = size) (hsz : 0 < size)
    {v : Value} (hs : a.eval s = v) {n : Nat} {xs : List Value} (hown : w.ownsRow base e size v n xs) {b m c : Nat} (hx : a.eval x = .slice (some ⟨b, 0, none⟩) m c) (news : List Value) (hb : Blk w b news e) (hl : news.length = m * size) (h1 : ∀ u ∈ news, u.oneCell' = true)
    (h63 : n + m ≤ 1000000) (hby : bytes ≤ 1000000) (hbase : base ≤ w.heap.size)
    (h : ∀ v' w', w'.ownsRow base e size v' (n + m) (xs ++ news) → w.grownBy w' v.ownBlock → wpList P ops Q rest (a.put dst v') w') :
    wpList P ops Q ({ dst := dst, op := .call { callee := .builtin .append, args := #[s, x], argTypes := #[t, t] }, type := ty, pos := pos, after := after, guard := none } :: rest) a w := by
  obtain ⟨i, hi, hz0, hz1, hz2⟩ := info_parts hinfo
  refine wpList_append_own w rfl s x t rfl base e i z size bytes ht hi hz0 hz1 hz2 hzs hsz v n xs hs hown ⟨b, 0, none⟩ m c news hx hl ?_ h1 (by unfold maxLen; omega) ?_ hbase (fun v' w' h2 h3 _ => h v' w' h2 h3)
  · intro j u hu
    have hadd : (⟨b, 0, none⟩ : Addr).add j = ⟨b, j, none⟩ := by unfold Addr.add; split <;> simp_all
    rw [hadd]
    exact hb.cell j hu
  · have := Nat.mul_le_mul h63 hby
    omega

end Go.Own
