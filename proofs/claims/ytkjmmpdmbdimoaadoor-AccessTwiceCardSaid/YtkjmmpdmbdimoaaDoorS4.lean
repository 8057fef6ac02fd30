/- Two changes joined by a comma, in plain Lean: the clauses of both, one list behind the other. -/
import Derived.Test.YtkjmmpdmbdimoaaDoorS1
namespace Go.Own

theorem drop_len (p : UInt8 → Bool) (l : List UInt8) : (l.dropWhile p).length ≤ l.length := (List.dropWhile_sublist p).length_le

theorem parseC_fuel : ∀ (f g : Nat) (r : List UInt8), r.length < f → r.length < g → parseC f r = parseC g r
  | 0, _, _, h, _ => absurd h (by omega)
  | _, 0, _, _, h => absurd h (by omega)
  | f + 1, g + 1, r, hf, hg => by
    unfold parseC
    split
    · rfl
    · have h1 := drop_len isCls r
      cases hd : r.dropWhile isCls with
      | nil => rfl
      | cons b r2 =>
        rw [hd] at h1
        simp only [List.length_cons] at h1
        have h2 := drop_len isLet r2
        cases hl : r2.dropWhile isLet with
        | nil => simp only [hl]
        | cons x r4 =>
          rw [hl] at h2
          simp only [List.length_cons] at h2
          simp only [hl]
          rw [parseC_fuel f g r4 (by omega) (by omega)]

theorem take_app (p : UInt8 → Bool) (hp : p 44 = false) (y : List UInt8) : ∀ r : List UInt8, (r ++ 44 :: y).takeWhile p = r.takeWhile p ∧ (r ++ 44 :: y).dropWhile p = r.dropWhile p ++ 44 :: y
  | [] => by simp [List.takeWhile_cons, List.dropWhile_cons, hp]
  | a :: r => by
    have ih := take_app p hp y r
    by_cases ha : p a = true
    · simp [List.takeWhile_cons, List.dropWhile_cons, ha, ih.1, ih.2]
    · have ha' : p a = false := by simpa using ha
      simp [List.takeWhile_cons, List.dropWhile_cons, ha']

theorem parseC_join (y : List UInt8) (P : Option (List Cl)) (hP : parseC (y.length + 1) y = P) : ∀ (f : Nat) (r : List UInt8) (g : Nat), r.length < f → r.length + 1 + y.length < g →
    parseC g (r ++ 44 :: y) = (parseC f r).bind fun l => P.map (l ++ ·)
  | 0, _, _, h, _ => absurd h (by omega)
  | f + 1, _, 0, _, h => absurd h (by omega)
  | f + 1, r, g + 1, hf, hg => by
    have ta := take_app isCls rfl y r
    unfold parseC
    rw [ta.1, ta.2]
    by_cases h0 : r.takeWhile isCls = []
    · rw [if_pos h0, if_pos h0]; rfl
    · rw [if_neg h0, if_neg h0]
      have h1 := drop_len isCls r
      cases hd : r.dropWhile isCls with
      | nil => simp [isOp]
      | cons b r2 =>
        rw [hd] at h1
        simp only [List.length_cons] at h1
        simp only [List.cons_append]
        have tb := take_app isLet rfl y r2
        rw [tb.1, tb.2]
        cases hb : isOp b with
        | false => simp
        | true =>
          have h2 := drop_len isLet r2
          cases hl : r2.dropWhile isLet with
          | nil =>
            simp only [List.nil_append]
            rw [parseC_fuel g (y.length + 1) y (by omega) (by omega), hP]
            cases P <;> simp [hl]
          | cons x r4 =>
            rw [hl] at h2
            simp only [List.length_cons] at h2
            simp only [List.cons_append]
            by_cases hx : x = 44
            · rw [parseC_join y P hP f r4 g (by omega) (by omega)]
              simp only [hl, hx]
              cases parseC f r4 with
              | none => rfl
              | some l => cases P <;> rfl
            · simp [hx, hl]
end Go.Own
