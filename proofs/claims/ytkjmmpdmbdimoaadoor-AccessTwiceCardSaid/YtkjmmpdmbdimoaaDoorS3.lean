/- What a change does, in plain Lean. -/
import Derived.Test.YtkjmmpdmbdimoaaDoorS2
namespace Go.Own

def applyC (m : M) (c : Cl) : M := if c.op = 43 then m ||| ownOf c else if c.op = 45 then m &&& ~~~(ownOf c) else (m &&& ~~~(allOf c)) ||| ownOf c
def applyAll (m : M) (l : List Cl) : M := l.foldl applyC m

theorem parse_ops : ∀ (f : Nat) (r : List UInt8) (l : List Cl), parseC f r = some l → ∀ c ∈ l, isOp c.op = true ∧ c.lets.length ≤ r.length
  | 0, _, _, h => by simp [parseC] at h
  | f + 1, r, l, h => by
    unfold parseC at h
    split at h
    · cases h
    · have hr1 := List.dropWhile_sublist isCls (l := r)
      split at h
      · cases h
      · rename_i b r2 hd
        have hl1 : r2.length + 1 ≤ r.length := by have := hr1.length_le; rw [hd] at this; simpa using this
        split at h
        · cases h
        · rename_i hop
          have hop : isOp b = true := by simpa using hop
          have hlet : (r2.takeWhile isLet).length ≤ r2.length := (List.takeWhile_sublist isLet).length_le
          have hmk : isOp (mkCl (r.takeWhile isCls) b (r2.takeWhile isLet)).op = true ∧ (mkCl (r.takeWhile isCls) b (r2.takeWhile isLet)).lets.length ≤ r.length := ⟨hop, by show (r2.takeWhile isLet).length ≤ _; omega⟩
          split at h
          · obtain rfl := Option.some.inj h
            intro c hc
            obtain rfl : c = _ := by simpa using hc
            exact hmk
          · rename_i x r4 hd4
            split at h
            · cases h
            · obtain ⟨l', hl', rfl⟩ := Option.map_eq_some_iff.1 h
              have hl4 : r4.length + 1 ≤ r2.length := by have := (List.dropWhile_sublist isLet (l := r2)).length_le; rw [hd4] at this; simpa using this
              intro c hc
              rcases List.mem_cons.1 hc with rfl | hc
              · exact hmk
              · have := parse_ops f r4 l' hl' c hc
                exact ⟨this.1, by omega⟩

theorem parse_ne : ∀ (f : Nat) (r : List UInt8) (l : List Cl), parseC f r = some l → 0 < l.length
  | 0, _, _, h => by simp [parseC] at h
  | f + 1, r, l, h => by
    unfold parseC at h
    split at h
    · cases h
    · split at h
      · cases h
      · split at h
        · cases h
        · split at h
          · obtain rfl := Option.some.inj h; simp
          · split at h
            · cases h
            · obtain ⟨l', _, rfl⟩ := Option.map_eq_some_iff.1 h; simp
theorem parse_len : ∀ (f : Nat) (r : List UInt8) (l : List Cl), parseC f r = some l → l.length ≤ r.length
  | 0, _, _, h => by simp [parseC] at h
  | f + 1, r, l, h => by
    unfold parseC at h
    split at h
    · cases h
    · have hr1 := (List.dropWhile_sublist isCls (l := r)).length_le
      split at h
      · cases h
      · rename_i b r2 hd
        rw [hd] at hr1
        simp only [List.length_cons] at hr1
        split at h
        · cases h
        · split at h
          · obtain rfl := Option.some.inj h; simp only [List.length_cons, List.length_nil]; omega
          · rename_i x r4 hd4
            have hr2 := (List.dropWhile_sublist isLet (l := r2)).length_le
            rw [hd4] at hr2
            simp only [List.length_cons] at hr2
            split at h
            · cases h
            · obtain ⟨l', hl', rfl⟩ := Option.map_eq_some_iff.1 h
              have := parse_len f r4 l' hl'
              simp only [List.length_cons]
              omega
def ofI (m : Int) : M := BitVec.ofNat 11 m.toNat
theorem val_ofI {m : Int} (h0 : 0 ≤ m) (h1 : m ≤ 2047) : val (ofI m) = m := by
  unfold val ofI
  rw [BitVec.toNat_ofNat, Nat.mod_eq_of_lt (by omega)]
  omega
theorem applyAll_snoc (m : M) (l : List Cl) (c : Cl) : applyAll m (l ++ [c]) = applyC (applyAll m l) c := by simp [applyAll]

end Go.Own
