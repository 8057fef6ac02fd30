/- One clause applied twice; what a clause leaves as it is: plain laws. -/
import Derived.Test.YtkjmmpdmbdimoaaDoorS3
import Derived.Test.YtkjmmpdmbdimoaaDoorA3
namespace Go.Proofs.YtkjmmpdmbdimoaaDoor
open Go.Own

theorem bv_ext {x y : M} (h : ∀ i, i < 11 → x.getLsbD i = y.getLsbD i) : x = y := BitVec.eq_of_getLsbD_eq h

theorem applyC_idem (x : M) (c : Cl) : applyC (applyC x c) c = applyC x c := by
  unfold applyC
  split
  · apply bv_ext
    intro i hi
    simp only [BitVec.getLsbD_or]
    cases x.getLsbD i <;> cases (ownOf c).getLsbD i <;> rfl
  · split
    · apply bv_ext
      intro i hi
      simp only [BitVec.getLsbD_and, BitVec.getLsbD_not, hi, decide_true, Bool.true_and]
      cases x.getLsbD i <;> cases (ownOf c).getLsbD i <;> rfl
    · apply bv_ext
      intro i hi
      simp only [BitVec.getLsbD_or, BitVec.getLsbD_and, BitVec.getLsbD_not, hi, decide_true, Bool.true_and]
      cases x.getLsbD i <;> cases (ownOf c).getLsbD i <;> cases (allOf c).getLsbD i <;> rfl

/-- The bits of a class. -/
def mk (k : Nat) : M := 7 <<< shOf k
theorem and_or_dist (a b c : M) : (a ||| b) &&& c = (a &&& c) ||| (b &&& c) := by
  apply bv_ext
  intro i hi
  simp only [BitVec.getLsbD_or, BitVec.getLsbD_and]
  cases a.getLsbD i <;> cases b.getLsbD i <;> cases c.getLsbD i <;> rfl
theorem keep_not (x y m : M) (h : y &&& m = 0) : (x &&& ~~~y) &&& m = x &&& m := by
  apply bv_ext
  intro i hi
  have hb : (y &&& m).getLsbD i = false := by rw [h]; simp
  simp only [BitVec.getLsbD_and, BitVec.getLsbD_not, hi, decide_true, Bool.true_and] at hb ⊢
  revert hb
  cases x.getLsbD i <;> cases y.getLsbD i <;> cases m.getLsbD i <;> simp
theorem or_zero' (x : M) : x ||| 0 = x := by simp

theorem letBit_7 (x : UInt8) : letBit x &&& 7 = letBit x := by
  unfold letBit
  split
  · decide
  · split
    · decide
    · split <;> decide
theorem foldl_7 : ∀ (l : List UInt8) (a : M), a &&& 7 = a → (l.foldl (fun a x => a ||| letBit x) a) &&& 7 = l.foldl (fun a x => a ||| letBit x) a
  | [], a, h => h
  | x :: l, a, h => foldl_7 l _ (by rw [and_or_dist, h, letBit_7])
theorem lb_7 (l : List UInt8) : lb l &&& 7 = lb l := foldl_7 l 0 (by decide)
theorem lb_fin (l : List UInt8) : ∃ y : Fin 8, lb l = BitVec.ofNat 11 y := by
  have h : (lb l).toNat < 8 := by
    rw [← lb_7 l, BitVec.toNat_and]
    exact Nat.lt_of_le_of_lt Nat.and_le_right (by decide)
  exact ⟨⟨(lb l).toNat, h⟩, by simp⟩
theorem lb_off : ∀ y : Fin 8, ((BitVec.ofNat 11 y : M) <<< (6 : Nat)) &&& mk 1 = 0 ∧ ((BitVec.ofNat 11 y : M) <<< (6 : Nat)) &&& mk 2 = 0 ∧ ((BitVec.ofNat 11 y : M) <<< (3 : Nat)) &&& mk 0 = 0 ∧ ((BitVec.ofNat 11 y : M) <<< (3 : Nat)) &&& mk 2 = 0 ∧ ((BitVec.ofNat 11 y : M) <<< (0 : Nat)) &&& mk 0 = 0 ∧ ((BitVec.ofNat 11 y : M) <<< (0 : Nat)) &&& mk 1 = 0 := by decide +kernel
theorem seven_off : ((7 : M) <<< (6 : Nat)) &&& mk 1 = 0 ∧ ((7 : M) <<< (6 : Nat)) &&& mk 2 = 0 ∧ ((7 : M) <<< (3 : Nat)) &&& mk 0 = 0 ∧ ((7 : M) <<< (3 : Nat)) &&& mk 2 = 0 ∧ ((7 : M) <<< (0 : Nat)) &&& mk 0 = 0 ∧ ((7 : M) <<< (0 : Nat)) &&& mk 1 = 0 := lb_off 7
theorem hi_off : (512 : M) &&& mk 0 = 0 ∧ (512 : M) &&& mk 1 = 0 ∧ (512 : M) &&& mk 2 = 0 ∧ (1024 : M) &&& mk 0 = 0 ∧ (1024 : M) &&& mk 1 = 0 ∧ (1024 : M) &&& mk 2 = 0 := by decide +kernel
theorem zero_and (m : M) : (0 : M) &&& m = 0 := by simp
theorem if_off (p : Prop) [Decidable p] (x m : M) (h : x &&& m = 0) : (if p then x else 0) &&& m = 0 := by
  split
  · exact h
  · exact zero_and m
theorem or_off (x y m : M) (h : x &&& m = 0) (k : y &&& m = 0) : (x ||| y) &&& m = 0 := by rw [and_or_dist, h, k]; rfl
theorem step_off (b : Bool) (x y m : M) (h : x &&& m = 0) (k : b = true → y &&& m = 0) : (if b = true then x ||| y else x) &&& m = 0 := by
  cases b
  · simpa using h
  · simpa using or_off x y m h (k rfl)
theorem ownL_off (c : Cl) (l : List UInt8) (k : Nat) (hk : k < 3) : ownL c l &&& mk k = 0 := by
  obtain ⟨a0, a1, a2, b0, b1, b2⟩ := hi_off
  have : k = 0 ∨ k = 1 ∨ k = 2 := by omega
  rcases this with rfl | rfl | rfl
  · exact or_off _ _ _ (if_off _ _ _ a0) (if_off _ _ _ b0)
  · exact or_off _ _ _ (if_off _ _ _ a1) (if_off _ _ _ b1)
  · exact or_off _ _ _ (if_off _ _ _ a2) (if_off _ _ _ b2)
theorem ownC_off (c : Cl) (k : Nat) (hk : k < 3) (hf : flagAt c k = false) : ownC c 3 &&& mk k = 0 := by
  obtain ⟨y, hy⟩ := lb_fin c.lets
  obtain ⟨o1, o2, o3, o4, o5, o6⟩ := lb_off y
  rw [← hy] at o1 o2 o3 o4 o5 o6
  have : k = 0 ∨ k = 1 ∨ k = 2 := by omega
  rcases this with rfl | rfl | rfl
  · exact step_off _ _ _ _ (step_off _ _ _ _ (step_off _ _ _ _ (zero_and _) (fun h => by rw [hf] at h; cases h)) (fun _ => o3)) (fun _ => o5)
  · exact step_off _ _ _ _ (step_off _ _ _ _ (step_off _ _ _ _ (zero_and _) (fun _ => o1)) (fun h => by rw [hf] at h; cases h)) (fun _ => o6)
  · exact step_off _ _ _ _ (step_off _ _ _ _ (step_off _ _ _ _ (zero_and _) (fun _ => o2)) (fun _ => o4)) (fun h => by rw [hf] at h; cases h)
theorem allC_off (c : Cl) (k : Nat) (hk : k < 3) (hf : flagAt c k = false) : allC c 3 &&& mk k = 0 := by
  obtain ⟨o1, o2, o3, o4, o5, o6⟩ := seven_off
  have : k = 0 ∨ k = 1 ∨ k = 2 := by omega
  rcases this with rfl | rfl | rfl
  · exact step_off _ _ _ _ (step_off _ _ _ _ (step_off _ _ _ _ (zero_and _) (fun h => by rw [hf] at h; cases h)) (fun _ => o3)) (fun _ => o5)
  · exact step_off _ _ _ _ (step_off _ _ _ _ (step_off _ _ _ _ (zero_and _) (fun _ => o1)) (fun h => by rw [hf] at h; cases h)) (fun _ => o6)
  · exact step_off _ _ _ _ (step_off _ _ _ _ (step_off _ _ _ _ (zero_and _) (fun _ => o2)) (fun _ => o4)) (fun h => by rw [hf] at h; cases h)
theorem own_off (c : Cl) (k : Nat) (hk : k < 3) (hf : flagAt c k = false) : ownOf c &&& mk k = 0 := or_off _ _ _ (ownC_off c k hk hf) (ownL_off c c.lets k hk)
theorem all_off (c : Cl) (k : Nat) (hk : k < 3) (hf : flagAt c k = false) : allOf c &&& mk k = 0 := by
  obtain ⟨a0, a1, a2, b0, b1, b2⟩ := hi_off
  have : k = 0 ∨ k = 1 ∨ k = 2 := by omega
  rcases this with rfl | rfl | rfl
  · exact or_off _ _ _ (or_off _ _ _ (allC_off c 0 hk hf) (if_off _ _ _ a0)) (if_off _ _ _ b0)
  · exact or_off _ _ _ (or_off _ _ _ (allC_off c 1 hk hf) (if_off _ _ _ a1)) (if_off _ _ _ b1)
  · exact or_off _ _ _ (or_off _ _ _ (allC_off c 2 hk hf) (if_off _ _ _ a2)) (if_off _ _ _ b2)
theorem applyC_keeps (x : M) (c : Cl) (k : Nat) (hk : k < 3) (hf : flagAt c k = false) : applyC x c &&& mk k = x &&& mk k := by
  unfold applyC
  split
  · rw [and_or_dist, own_off c k hk hf, or_zero']
  · split
    · exact keep_not _ _ _ (own_off c k hk hf)
    · rw [and_or_dist, own_off c k hk hf, or_zero', keep_not _ _ _ (all_off c k hk hf)]

theorem bitsI_all : ∀ m : Fin 2048, bitsI (m : Nat) 0 = val ((BitVec.ofNat 11 m : M) &&& mk 0) / 64 ∧ bitsI (m : Nat) 1 = val ((BitVec.ofNat 11 m : M) &&& mk 1) / 8 ∧ bitsI (m : Nat) 2 = val ((BitVec.ofNat 11 m : M) &&& mk 2) := by decide +kernel
theorem bitsI_keeps (x : M) (c : Cl) (k : Nat) (hk : k < 3) (hf : flagAt c k = false) : bitsI (val (applyC x c)) (k : Int) = bitsI (val x) (k : Int) := by
  have h1 := bitsI_all ⟨(applyC x c).toNat, (applyC x c).isLt⟩
  have h2 := bitsI_all ⟨x.toNat, x.isLt⟩
  simp only [BitVec.ofNat_toNat, BitVec.setWidth_eq] at h1 h2
  have hkeep := applyC_keeps x c k hk hf
  have : k = 0 ∨ k = 1 ∨ k = 2 := by omega
  rcases this with rfl | rfl | rfl
  · exact h1.1.trans ((congrArg (fun z => val z / 64) hkeep).trans h2.1.symm)
  · exact h1.2.1.trans ((congrArg (fun z => val z / 8) hkeep).trans h2.2.1.symm)
  · exact h1.2.2.trans ((congrArg (fun z => val z) hkeep).trans h2.2.2.symm)
end Go.Proofs.YtkjmmpdmbdimoaaDoor
