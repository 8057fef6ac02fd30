/- The contract of the reference's index. -/
import Derived.Test.YtkjmmpdmbdimoaaDoorA6
namespace Go.Proofs.YtkjmmpdmbdimoaaDoor
open Go.RowKit Go.Own

def Has (s : ByteArray) (b : UInt8) : Prop := b ∈ s.data.toList

theorem rindex_calls (s : ByteArray) (b : UInt8) (w : World) (hs : s.size ≤ 100) :
    Calls Tryd.prog 25 #[.string s, .int .u8 ((b.toNat : Nat) : Int)] w fun e w' => (∃ r : Int, e = .returned (.int .i64 r) ∧ ((0 ≤ r ∧ r ≤ 100 ∧ Has s b) ∨ (r = -1 ∧ ¬ Has s b))) ∧ w = w' := by
  go_enter Tryd.func25, Tryd.ntmps25
  go_wp2
  go_loop [5] (fun i => ∃ k : Nat, k ≤ s.size ∧ i = .int .i64 k ∧ Hid (∀ i (h : i < s.data.toList.length), i < k → s.data.toList[i] ≠ b)) (fun i => s.size - (intOf i).toNat)
  case atStart => exact ⟨0, by omega, rfl, fun i h h2 => absurd h2 (by omega)⟩
  case round =>
    obtain ⟨k, hk, rfl, hno⟩ := hrel
    by_cases hlt : k < s.size
    · have HL := Lib.hid hlt
      have hl : k < s.data.toList.length := by simpa using hlt
      have hl2 := Lib.hid hl
      clear hl
      cases hv : (((s[k].toNat : Nat) : Int) == ((b.toNat : Nat) : Int)) with
      | true =>
        have HV := Lib.hid hv
        go_wp2
        go_ret
        have e : s[k]'HL.out = b := by
          have h := HV.out
          rw [beq_iff_eq] at h
          exact UInt8.toNat_inj.1 (Int.ofNat_inj.1 h)
        exact ⟨⟨(k : Int), rfl, .inl ⟨by omega, by omega, by rw [← e]; show _ ∈ s.data.toList; exact List.getElem_mem hl2.out⟩⟩, rfl⟩
      | false =>
        have HV := Lib.hid hv
        go_wp2
        go_round
        case rel => exact ⟨k + 1, by omega, by go_num, fun i h h2 => by
          by_cases e : i = k
          · subst e
            intro e2
            have h := HV.out
            rw [beq_eq_false_iff_ne] at h
            exact h (by rw [← e2]; rfl)
          · exact hno.out i h (by omega)⟩
        case measure => simp [intOf]; omega
    · have HK : Hid (k = s.size) := by show k = s.size; omega
      go_wp2
      go_ret
      exact ⟨⟨-1, rfl, .inr ⟨rfl, fun hm => by
        obtain ⟨i, hi, e⟩ := List.getElem_of_mem hm
        exact hno.out i hi (by have := HK.out; simp at hi; omega) e⟩⟩, rfl⟩

theorem isCls_mem (b : UInt8) : isCls b = true ↔ b ∈ (⟨#[117, 103, 111, 97]⟩ : ByteArray).data.toList := by simp [isCls, or_assoc]
theorem isOp_mem (b : UInt8) : isOp b = true ↔ b ∈ (⟨#[43, 45, 61]⟩ : ByteArray).data.toList := by simp [isOp, or_assoc]
theorem isLet_mem (b : UInt8) : isLet b = true ↔ b ∈ (⟨#[114, 119, 120, 115, 116]⟩ : ByteArray).data.toList := by simp [isLet, or_assoc]

theorem ix_yes {s : ByteArray} {p : UInt8 → Bool} (hp : ∀ b, p b = true ↔ b ∈ s.data.toList) (hs : s.size ≤ 100) (b : UInt8) (w : World) (h : p b = true) :
    Calls Tryd.prog 25 #[.string s, .int .u8 ((b.toNat : Nat) : Int)] w fun e w' => (∃ r : Int, e = .returned (.int .i64 r) ∧ 0 ≤ r ∧ r ≤ 100) ∧ w = w' :=
  (rindex_calls s b w hs).mono fun e w' ⟨⟨r, he, hr⟩, hw⟩ => ⟨⟨r, he, by
    rcases hr with hr | hr
    · exact ⟨hr.1, hr.2.1⟩
    · exact absurd ((hp b).1 h) hr.2⟩, hw⟩
theorem ix_no {s : ByteArray} {p : UInt8 → Bool} (hp : ∀ b, p b = true ↔ b ∈ s.data.toList) (hs : s.size ≤ 100) (b : UInt8) (w : World) (h : p b = false) :
    Calls Tryd.prog 25 #[.string s, .int .u8 ((b.toNat : Nat) : Int)] w fun e w' => e = .returned (.int .i64 (-1)) ∧ w = w' :=
  (rindex_calls s b w hs).mono fun e w' ⟨⟨r, he, hr⟩, hw⟩ => ⟨by
    rcases hr with hr | hr
    · rw [(hp b).2 hr.2.2] at h; exact Bool.noConfusion h
    · rw [he, hr.1], hw⟩
end Go.Proofs.YtkjmmpdmbdimoaaDoor
