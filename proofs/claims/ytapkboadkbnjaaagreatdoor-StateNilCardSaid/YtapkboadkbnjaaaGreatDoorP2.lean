/- The order of names: cmp.Compare, cmp.Or, strings.Compare; lineage.Compare and object.Compare at the empty owner. -/
import Derived.Test.YtapkboadkbnjaaaGreatDoorP1
import Derived.Shelf.Small.Strs
namespace Go.Proofs.YtapkboadkbnjaaaGreatDoor
open Go.RowKit Go.Own

set_option maxRecDepth 100000 in
theorem cmpString_calls (a b : ByteArray) (w : World) : Calls Tryz.prog 132 #[.string a, .string b] w fun e w' => e = .returned (.int .i64 (Lib.compareBytes a.data.toList b.data.toList)) ∧ w = w' := by
  go_enter Tryz.func132, Tryz.ntmps132
  go_wp2
  rw [run_callFunc_extern Tryz.func146 (by kernel_rfl) (by kernel_rfl) (by kernel_rfl) (e := Extern.BytealgCompare.compare) (by kernel_rfl), Lib.run_compareString]
  simp only [Result.andThen]
  rw [Oper.upon_value]
  go_wp2
  go_ret
  exact ⟨rfl, rfl⟩
theorem strCompare_calls (a b : ByteArray) (w : World) : Calls Tryz.prog 86 #[.string a, .string b] w fun e w' => e = .returned (.int .i64 (Lib.compareBytes a.data.toList b.data.toList)) ∧ w = w' := by
  go_enter Tryz.func86, Tryz.ntmps86
  go_wp2_with (go_at_call 132; (with_reducible refine (cmpString_calls _ _ _).mono ?_); rintro e w' ⟨rfl, rfl⟩)
  go_ret
  exact ⟨rfl, rfl⟩

def cmpI (a b : Int) : Int := if a < b then -1 else if b < a then 1 else 0
theorem isNaN_calls (a : Int) (w : World) : Calls Tryz.prog 129 #[.int .i64 a] w fun e w' => e = .returned (.bool false) ∧ w = w' := by
  go_enter Tryz.func129, Tryz.ntmps129
  go_wp2
  go_ret
  exact ⟨by simp, rfl⟩
theorem cmpInt_calls (a b : Int) (w : World) : Calls Tryz.prog 84 #[.int .i64 a, .int .i64 b] w fun e w' => e = .returned (.int .i64 (cmpI a b)) ∧ w = w' := by
  by_cases h0 : a < b
  · go_enter Tryz.func84, Tryz.ntmps84
    go_wp2_with (go_at_call 129; (with_reducible refine (isNaN_calls _ _).mono ?_); rintro e w' ⟨rfl, rfl⟩)
    go_ret
    exact ⟨ret_int (by simp [cmpI, h0]), rfl⟩
  · by_cases h1 : b < a
    · go_enter Tryz.func84, Tryz.ntmps84
      go_wp2_with (go_at_call 129; (with_reducible refine (isNaN_calls _ _).mono ?_); rintro e w' ⟨rfl, rfl⟩)
      go_ret
      exact ⟨ret_int (by simp [cmpI, h0, h1]), rfl⟩
    · go_enter Tryz.func84, Tryz.ntmps84
      go_wp2_with (go_at_call 129; (with_reducible refine (isNaN_calls _ _).mono ?_); rintro e w' ⟨rfl, rfl⟩)
      go_ret
      exact ⟨ret_int (by unfold cmpI; rw [if_neg (by omega), if_neg (by omega)]), rfl⟩

/-- The first that is not zero. -/
def orI : List Int → Int
  | [] => 0
  | x :: l => if x = 0 then orI l else x
def ivals (l : List Int) : List Value := l.map (Value.int .i64)
theorem orI_skip : ∀ (l : List Int) (k : Nat), (∀ j, j < k → l[j]?.getD 0 = 0) → orI l = orI (l.drop k)
  | l, 0, _ => by simp
  | [], _ + 1, _ => by simp
  | x :: l, k + 1, h => by
    have h0 : x = 0 := by simpa using h 0 (by omega)
    have ih := orI_skip l k (fun j hj => by have := h (j + 1) (by omega); simpa using this)
    simp [orI, h0, ih]
theorem or_calls (zs : List Int) (n b c : Nat) (w : World) (hn : zs.length = n) (hc : n ≤ 9223372036854775807) (hb : ∀ j, j < n → w.cell? ⟨b, j, none⟩ = some (.int .i64 (zs[j]?.getD 0))) :
    Calls Tryz.prog 83 #[.slice (some ⟨b, 0, none⟩) n c] w fun e w' => e = .returned (.int .i64 (orI zs)) ∧ w = w' := by
  have HB := Lib.hid hb
  have HN := Lib.hid hn
  clear hb hn
  go_enter Tryz.func83, Tryz.ntmps83
  go_wp2
  go_loop [8] (fun i => ∃ k : Nat, k ≤ n ∧ i = .int .i64 k ∧ Hid (∀ j, j < k → zs[j]?.getD 0 = 0)) (fun i => n - (intOf i).toNat)
  case atStart => exact ⟨0, by omega, rfl, fun j hj => absurd hj (by omega)⟩
  case round =>
    obtain ⟨k, hk, rfl, hz⟩ := hrel
    by_cases hlt : k < n
    · have q := HB.out k hlt
      cases hx : (zs[k]?.getD 0 != 0) with
      | true =>
        have HX := Lib.hid hx
        have HL := Lib.hid hlt
        go_wp2
        go_ret
        refine ⟨ret_int ?_, rfl⟩
        rw [orI_skip zs k hz.out]
        have hl : k < zs.length := by rw [HN.out]; exact HL.out
        rw [List.drop_eq_getElem_cons hl]
        have h := HX.out
        rw [List.getElem?_eq_getElem hl] at h ⊢
        simp at h
        simp [orI, h]
      | false =>
        have HX := Lib.hid hx
        go_wp2
        go_round
        case rel => exact ⟨k + 1, by omega, by go_num, fun j hj => by
          by_cases e : j = k
          · subst e; simpa using HX.out
          · exact hz.out j (by omega)⟩
        case measure => simp [intOf]; omega
    · have HK : Hid (k = n) := by show k = n; omega
      go_wp2
      go_ret
      refine ⟨ret_int ?_, rfl⟩
      rw [orI_skip zs k hz.out, List.drop_of_length_le (by rw [HN.out, HK.out]; omega)]
      rfl

theorem parse_empty (w : World) : Calls Tryz.prog 105 #[.string ⟨#[]⟩] w fun e w' => e = .returned (.tuple #[.slice none 0 0, .int .i64 0, .int .i64 0]) ∧ Below w.heap.size w w' :=
  (callsIn_wide (n := 3)).1 (parse_empty_in Fence.wide 3 trivial trivial trivial rfl (by omega) w)
theorem valid_empty (w : World) : Calls Tryz.prog 61 #[.string ⟨#[]⟩] w fun e w' => e = .returned (.bool true) ∧ Below w.heap.size w w' := by
  go_enter Tryz.func61, Tryz.ntmps61
  go_wp2_with (go_at_call 105; (with_reducible refine (parse_empty _).mono ?_); rintro e w' ⟨rfl, hb⟩)
  go_ret
  exact ⟨rfl, hb⟩
theorem ordinals_empty (w : World) : Calls Tryz.prog 131 #[.string ⟨#[]⟩] w fun e w' => e = .returned (.slice none 0 0) ∧ Below w.heap.size w w' := by
  go_enter Tryz.func131, Tryz.ntmps131
  go_wp2_with (go_at_call 105; (with_reducible refine (parse_empty _).mono ?_); rintro e w' ⟨rfl, hb⟩)
  go_ret
  exact ⟨rfl, hb⟩
theorem slicesCompare_empty (w : World) : Calls Tryz.prog 130 #[.slice none 0 0, .slice none 0 0] w fun e w' => e = .returned (.int .i64 0) ∧ w = w' := by
  go_enter Tryz.func130, Tryz.ntmps130
  go_wp2
  go_loop [11] (fun i => i = .int .i64 0) (fun i => 0)
  case atStart => rfl
  case round =>
    subst hrel
    go_wp2
    go_ret
    exact ⟨rfl, rfl⟩
theorem lineageCompare_empty (w : World) : Calls Tryz.prog 85 #[.string ⟨#[]⟩, .string ⟨#[]⟩] w fun e w' => e = .returned (.int .i64 0) ∧ Below w.heap.size w w' := by
  have HB := Lib.hid (Below.refl w.heap.size w)
  go_enter Tryz.func85, Tryz.ntmps85
  go_wp2_with (first
    | (go_at_call 61; (with_reducible refine (valid_empty _).mono ?_); rintro e w' ⟨rfl, hb⟩; have HB := Lib.hid (bel_then HB.out HB.out.size hb); clear hb)
    | (go_at_call 131; (with_reducible refine (ordinals_empty _).mono ?_); rintro e w' ⟨rfl, hb⟩; have HB := Lib.hid (bel_then HB.out HB.out.size hb); clear hb)
    | (go_at_call 130; (with_reducible refine (slicesCompare_empty _).mono ?_); rintro e w' ⟨rfl, rfl⟩))
  go_ret
  exact ⟨rfl, HB.out⟩
end Go.Proofs.YtapkboadkbnjaaaGreatDoor
