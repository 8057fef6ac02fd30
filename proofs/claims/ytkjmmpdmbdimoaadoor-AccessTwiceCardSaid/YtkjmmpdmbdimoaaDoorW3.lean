/- Words: a slice of bytes becomes a string. -/
import Derived.Test.YtkjmmpdmbdimoaaDoorW2
import Derived.Laws.BytesString
import Derived.Laws.Concat
namespace Go.Own
open Go.RowKit

theorem foldl_push (l : List UInt8) : ∀ (s : ByteArray), (l.map fun x => ((x.toNat : Nat) : Int)).foldl (fun r n => r.push (UInt8.ofNat n.toNat)) s = s ++ ⟨l.toArray⟩ := by
  induction l with
  | nil => intro s; apply ByteArray.ext; simp
  | cons x l ih =>
    intro s
    simp only [List.map_cons, List.foldl_cons]
    rw [ih]
    apply ByteArray.ext
    apply Array.ext'
    simp [ByteArray.push]

def bvals (l : List UInt8) : List Value := l.map fun x => .int .u8 ((x.toNat : Nat) : Int)

theorem run_conv_blk {P : Program} {w : World} {src dst e : TypeId} (hs : P.underlying src = some (.slice e)) (he : P.underlying e = some (.int .u8)) (hd : P.underlying dst = some .string) {b : Nat} (bs : List UInt8) (c : Nat)
    (hb : ∀ j v, (bvals bs)[j]? = some v → w.cell? ⟨b, j, none⟩ = some v) : (convert src dst (.slice (some ⟨b, 0, none⟩) bs.length c)).run P w = .ok (.string ⟨bs.toArray⟩) w := by
  rw [run_convert_bytes_string w src dst e _ _ _ hs he hd]
  have h := run_loadCells_list (P := P) w ⟨b, 0, none⟩ (bvals bs) (fun j v hv => by
    have hadd : (⟨b, 0, none⟩ : Addr).add j = ⟨b, j, none⟩ := by unfold Addr.add; split <;> simp_all
    rw [hadd]
    exact hb j v hv)
  have e1 : (bvals bs) = (bs.map fun x => ((x.toNat : Nat) : Int)).map (Value.int .u8) := by simp [bvals]
  have hl : (bvals bs).length = bs.length := by simp [bvals]
  rw [hl, e1] at h
  rw [run_bytesToString w _ _ _ _ h, foldl_push]
  congr 2

/-- []byte to string, at the operation. -/
theorem wpList_conv {P : Program} {w : World} {ops : Array Oper} {rest : List Oper} {dst : Option Tmp} {ty : TypeId} {pos : String} {after : Array Edge} {a : Act} {Q : Exit → Act → World → Prop}
    {x : Operand} {src dt : TypeId} (e : TypeId) (hs : P.underlying src = some (.slice e)) (he : P.underlying e = some (.int .u8)) (hd : P.underlying dt = some .string) {b n c : Nat} (hx : a.eval x = .slice (some ⟨b, 0, none⟩) n c) (bs : List UInt8) (hn : n = bs.length)
    (hb : ∀ j v, (bvals bs)[j]? = some v → w.cell? ⟨b, j, none⟩ = some v)
    (hK : wpList P ops Q rest (a.put dst (.string ⟨bs.toArray⟩)) w) :
    wpList P ops Q ({ dst := dst, op := .convert src dt x, type := ty, pos := pos, after := after, guard := none } :: rest) a w := by
  subst hn
  refine wpList_plain rfl fun K' hK' => ?_
  unfold Oper.wp
  simp [execOp, hx, run_conv_blk hs he hd bs c hb, Result.andThen]
  exact hK' _ _ hK

end Go.Own
