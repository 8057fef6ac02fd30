/- The specification of the clauses of a change, in plain Lean. -/
import Derived.Lib.Hide
namespace Go.Own

def isCls (b : UInt8) : Bool := b == 117 || b == 103 || b == 111 || b == 97
def isLet (b : UInt8) : Bool := b == 114 || b == 119 || b == 120 || b == 115 || b == 116
def isOp (b : UInt8) : Bool := b == 43 || b == 45 || b == 61

structure Cl where
  u : Bool
  g : Bool
  o : Bool
  op : UInt8
  lets : List UInt8
  deriving DecidableEq

def fU (l : List UInt8) : Bool := l.any fun b => b == 117 || b == 97
def fG (l : List UInt8) : Bool := l.any fun b => b == 103 || b == 97
def fO (l : List UInt8) : Bool := l.any fun b => b == 111 || b == 97

def mkCl (seg : List UInt8) (op : UInt8) (lets : List UInt8) : Cl := ⟨fU seg, fG seg, fO seg, op, lets⟩

def parseC : Nat → List UInt8 → Option (List Cl)
  | 0, _ => none
  | f + 1, r =>
    if r.takeWhile isCls = [] then none else
    match r.dropWhile isCls with
    | [] => none
    | b :: r2 =>
      if isOp b = false then none else
      match r2.dropWhile isLet with
      | [] => some [mkCl (r.takeWhile isCls) b (r2.takeWhile isLet)]
      | x :: r4 => if x ≠ 44 then none else (parseC f r4).map (mkCl (r.takeWhile isCls) b (r2.takeWhile isLet) :: ·)

/-- The part of a list from i up to k. -/
def seg (L : List UInt8) (i k : Nat) : List UInt8 := (L.drop i).take (k - i)

theorem seg_self (L : List UInt8) (i : Nat) : seg L i i = [] := by simp [seg]
theorem seg_snoc (L : List UInt8) (i k : Nat) (hi : i ≤ k) (hk : k < L.length) : seg L i (k + 1) = seg L i k ++ [L[k]] := by
  unfold seg
  rw [show k + 1 - i = (k - i) + 1 by omega, List.take_succ_eq_append_getElem (by rw [List.length_drop]; omega)]
  simp [List.getElem_drop, show i + (k - i) = k by omega]
theorem takeWhile_take (p : UInt8 → Bool) : ∀ (l : List UInt8) (m : Nat), m ≤ l.length → (∀ j (h : j < l.length), j < m → p l[j] = true) → (∀ h : m < l.length, p l[m] = false) → l.takeWhile p = l.take m ∧ l.dropWhile p = l.drop m
  | [], m, hm, _, _ => by simp
  | x :: l, 0, _, _, hno => by
    have := hno (by simp)
    simp at this
    simp [List.takeWhile_cons, List.dropWhile_cons, this]
  | x :: l, m + 1, hm, hall, hno => by
    have h0 := hall 0 (by simp) (by omega)
    simp at h0
    have ih := takeWhile_take p l m (by simpa using hm) (fun j h hj => by have := hall (j + 1) (by simp; omega) (by omega); exact this) (fun h => by have := hno (by simp; omega); exact this)
    simp [List.takeWhile_cons, List.dropWhile_cons, h0, ih]
theorem seg_while (p : UInt8 → Bool) (L : List UInt8) (i k : Nat) (hi : i ≤ k) (hk : k ≤ L.length) (hall : ∀ j (h : j < L.length), i ≤ j → j < k → p L[j] = true) (hno : ∀ h : k < L.length, p L[k] = false) :
    (L.drop i).takeWhile p = seg L i k ∧ (L.drop i).dropWhile p = L.drop k := by
  have := takeWhile_take p (L.drop i) (k - i) (by rw [List.length_drop]; omega) (fun j h hj => by
      rw [List.getElem_drop]; exact hall _ _ (by omega) (by omega)) (fun h => by
      rw [List.getElem_drop]
      have e : i + (k - i) = k := by omega
      simp only [e]
      exact hno _)
  refine ⟨this.1, this.2.trans ?_⟩
  rw [List.drop_drop, show i + (k - i) = k by omega]
theorem drop_cons (L : List UInt8) (k : Nat) (hk : k < L.length) : L.drop k = L[k] :: L.drop (k + 1) := by
  rw [List.drop_eq_getElem_cons hk]
theorem fU_snoc (l : List UInt8) (b : UInt8) : fU (l ++ [b]) = (fU l || (b == 117 || b == 97)) := by simp [fU]
theorem fG_snoc (l : List UInt8) (b : UInt8) : fG (l ++ [b]) = (fG l || (b == 103 || b == 97)) := by simp [fG]
theorem fO_snoc (l : List UInt8) (b : UInt8) : fO (l ++ [b]) = (fO l || (b == 111 || b == 97)) := by simp [fO]

/-- Whether no clause can go on at j. -/
def badAt (L : List UInt8) (k j : Nat) : Bool := decide (k = j) || !(match L[j]? with | some x => isOp x | none => false)
theorem parse_bad {L : List UInt8} {k j : Nat} (f : Nat) (hj : j ≤ L.length) (h1 : (L.drop k).takeWhile isCls = seg L k j) (h2 : (L.drop k).dropWhile isCls = L.drop j) (hb : badAt L k j = true) : parseC f (L.drop k) = none := by
  cases f with
  | zero => rfl
  | succ f =>
    unfold parseC
    rw [h1, h2]
    by_cases hs : seg L k j = []
    · rw [if_pos hs]
    · rw [if_neg hs]
      have hkj : k ≠ j := by rintro rfl; exact hs (seg_self _ _)
      by_cases hl : j < L.length
      · rw [drop_cons L j hl]
        have : isOp L[j] = false := by
          unfold badAt at hb
          rw [List.getElem?_eq_getElem hl] at hb
          simpa [hkj] using hb
        simp [this]
      · rw [List.drop_eq_nil_of_le (by omega)]
theorem good_at {L : List UInt8} {k j : Nat} (hb : badAt L k j = false) : k ≠ j ∧ ∃ h : j < L.length, isOp L[j] = true := by
  unfold badAt at hb
  by_cases hl : j < L.length
  · rw [List.getElem?_eq_getElem hl] at hb
    simp at hb
    exact ⟨hb.1, hl, hb.2⟩
  · rw [List.getElem?_eq_none (by omega)] at hb
    simp at hb
theorem parse_good {L : List UInt8} {k j m : Nat} (f : Nat) (hk : k ≤ j) (hkj : k ≠ j) (hj : j < L.length) (hm : m ≤ L.length) (ho : isOp L[j] = true)
    (h1 : (L.drop k).takeWhile isCls = seg L k j) (h2 : (L.drop k).dropWhile isCls = L.drop j) (h3 : (L.drop (j + 1)).takeWhile isLet = seg L (j + 1) m) (h4 : (L.drop (j + 1)).dropWhile isLet = L.drop m) :
    parseC (f + 1) (L.drop k) = match L.drop m with
      | [] => some [mkCl (seg L k j) L[j] (seg L (j + 1) m)]
      | x :: r4 => if x ≠ 44 then none else (parseC f r4).map (mkCl (seg L k j) L[j] (seg L (j + 1) m) :: ·) := by
  have hs : seg L k j ≠ [] := by
    intro h
    have := congrArg List.length h
    simp [seg] at this
    omega
  conv => lhs; unfold parseC
  rw [h1, h2, if_neg hs, drop_cons L j hj]
  simp only [ho, h3, h4]
  rfl
theorem parse_end {L : List UInt8} {k j m : Nat} (f : Nat) (hk : k ≤ j) (hkj : k ≠ j) (hj : j < L.length) (hm : m = L.length) (ho : isOp L[j] = true)
    (h1 : (L.drop k).takeWhile isCls = seg L k j) (h2 : (L.drop k).dropWhile isCls = L.drop j) (h3 : (L.drop (j + 1)).takeWhile isLet = seg L (j + 1) m) (h4 : (L.drop (j + 1)).dropWhile isLet = L.drop m) :
    parseC (f + 1) (L.drop k) = some [mkCl (seg L k j) L[j] (seg L (j + 1) m)] := by
  rw [parse_good f hk hkj hj (by omega) ho h1 h2 h3 h4, List.drop_eq_nil_of_le (by omega)]
theorem parse_stop {L : List UInt8} {k j m : Nat} (f : Nat) (hk : k ≤ j) (hkj : k ≠ j) (hj : j < L.length) (hm : m < L.length) (ho : isOp L[j] = true)
    (h1 : (L.drop k).takeWhile isCls = seg L k j) (h2 : (L.drop k).dropWhile isCls = L.drop j) (h3 : (L.drop (j + 1)).takeWhile isLet = seg L (j + 1) m) (h4 : (L.drop (j + 1)).dropWhile isLet = L.drop m) (hx : L[m] ≠ 44) :
    parseC (f + 1) (L.drop k) = none := by
  rw [parse_good f hk hkj hj (by omega) ho h1 h2 h3 h4, drop_cons L m hm]
  simp [hx]
theorem parse_more {L : List UInt8} {k j m : Nat} (f : Nat) (hk : k ≤ j) (hkj : k ≠ j) (hj : j < L.length) (hm : m < L.length) (ho : isOp L[j] = true)
    (h1 : (L.drop k).takeWhile isCls = seg L k j) (h2 : (L.drop k).dropWhile isCls = L.drop j) (h3 : (L.drop (j + 1)).takeWhile isLet = seg L (j + 1) m) (h4 : (L.drop (j + 1)).dropWhile isLet = L.drop m) (hx : L[m] = 44) :
    parseC (f + 1) (L.drop k) = (parseC f (L.drop (m + 1))).map (mkCl (seg L k j) L[j] (seg L (j + 1) m) :: ·) := by
  rw [parse_good f hk hkj hj (by omega) ho h1 h2 h3 h4, drop_cons L m hm]
  simp [hx]

end Go.Own
