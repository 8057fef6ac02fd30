/- The specification of the bits of a clause, in plain Lean. -/
import Derived.Test.YtkjmmpdmbdimoaaDoorS1
import Derived.Laws.BitsLemmas
import Derived.Laws.Bits64
import Derived.Laws.BitsAllLaws
namespace Go.Own

abbrev M := BitVec 11
def val (x : M) : Int := (x.toNat : Int)
theorem val_range (x : M) : 0 ≤ val x ∧ val x ≤ 2047 := by
  unfold val; have := x.isLt; omega
theorem i64_wraps (n : Int) (h0 : 0 ≤ n) (h1 : n < 2 ^ 11) : IntKind.i64.wrap n = n := by
  rw [IntKind.wrap_i64]; omega
theorem val_or (x y : M) : bits .or .i64 (val x) (val y) = val (x ||| y) := by
  unfold val
  rw [(bits_nat .i64 11 (by decide) i64_wraps x.toNat y.toNat x.isLt y.isLt).2, BitVec.toNat_or]
theorem val_and (x y : M) : bits .and .i64 (val x) (val y) = val (x &&& y) := by
  unfold val
  rw [(bits_nat .i64 11 (by decide) i64_wraps x.toNat y.toNat x.isLt y.isLt).1, BitVec.toNat_and]

theorem wide_andNot (x y : M) : (x.setWidth 64 &&& ~~~(y.setWidth 64)) = (x &&& ~~~y).setWidth 64 := by
  apply BitVec.eq_of_getLsbD_eq
  intro i hi
  simp only [BitVec.getLsbD_and, BitVec.getLsbD_not, BitVec.getLsbD_setWidth, hi, decide_true, Bool.true_and]
  by_cases h : i < 11
  · simp [h]
  · simp [BitVec.getLsbD_of_ge x i (by omega)]
theorem val_andNot (x y : M) : bits .andNot .i64 (val x) (val y) = val (x &&& ~~~y) := by
  have e : ∀ z : M, BitVec.ofInt 64 (val z) = z.setWidth 64 := by
    intro z
    apply BitVec.eq_of_toNat_eq
    unfold val
    rw [BitVec.ofInt_natCast, BitVec.toNat_ofNat, BitVec.toNat_setWidth]
  have h : bits .andNot .i64 (val x) (val y) = IntKind.i64.wrap (((BitVec.ofInt 64 (val x) &&& ~~~(BitVec.ofInt 64 (val y))).toNat : Nat) : Int) := rfl
  rw [h, e, e, wide_andNot, BitVec.toNat_setWidth, Nat.mod_eq_of_lt (Nat.lt_of_lt_of_le (x &&& ~~~y).isLt (by decide))]
  exact i64_wraps _ (by omega) (by have := (x &&& ~~~y).isLt; omega)

def letBit (x : UInt8) : M := if x = 114 then 4 else if x = 119 then 2 else if x = 120 then 1 else 0
def lb (l : List UInt8) : M := l.foldl (fun a x => a ||| letBit x) 0
theorem lb_snoc (l : List UInt8) (x : UInt8) : lb (l ++ [x]) = lb l ||| letBit x := by simp [lb]
def shOf (k : Nat) : Nat := if k = 0 then 6 else if k = 1 then 3 else 0
def flagAt (c : Cl) (k : Nat) : Bool := if k = 0 then c.u else if k = 1 then c.g else c.o
/-- What the first k classes give. -/
def ownC (c : Cl) : Nat → M
  | 0 => 0
  | k + 1 => if flagAt c k = true then ownC c k ||| (lb c.lets <<< shOf k) else ownC c k
def allC (c : Cl) : Nat → M
  | 0 => 0
  | k + 1 => if flagAt c k = true then allC c k ||| (7 <<< shOf k) else allC c k
/-- What the first letters give besides. -/
def ownL (c : Cl) (l : List UInt8) : M := (if 115 ∈ l ∧ c.u = true then 512 else 0) ||| (if 116 ∈ l ∧ c.o = true then 1024 else 0)
def ownOf (c : Cl) : M := ownC c 3 ||| ownL c c.lets
def allOf (c : Cl) : M := (allC c 3 ||| (if c.u = true then 512 else 0)) ||| (if c.o = true then 1024 else 0)

end Go.Own
