/- The walk of AccessJoins. -/
import Derived.Test.YtkjmmpdmbdimoaaDoorB1
import Derived.Test.YtkjmmpdmbdimoaaDoorS4
namespace Go.Proofs.YtkjmmpdmbdimoaaDoor
open Go.RowKit Go.Own

/-- The parse of a text. -/
def pz (s : ByteArray) : Option (List Cl) := parseC (s.data.toList.length + 1) s.data.toList

theorem apply_ok (m : M) (s : ByteArray) (l : List Cl) (k : Int) (w : World) (hs : Shifts w) (hlen : s.size ≤ 100) (hp : pz s = some l) (hk : k = val m) :
    Calls Tryd.prog 13 #[.int .i64 k, .string s] w fun e w' => e = .returned (.tuple #[.int .i64 (val (applyAll m l)), .int .i64 0, .int .i64 0]) ∧ Below w.heap.size w w' := by
  subst hk
  refine (apply_calls m s w hs hlen).mono fun e w' h => ?_
  obtain ⟨hb, h⟩ := h
  rw [show parseC (s.data.toList.length + 1) s.data.toList = some l from hp] at h
  exact ⟨h, hb⟩
theorem apply_bad (m : M) (s : ByteArray) (k : Int) (w : World) (hs : Shifts w) (hlen : s.size ≤ 100) (hp : pz s = none) (hk : k = val m) :
    Calls Tryd.prog 13 #[.int .i64 k, .string s] w fun e w' => (∃ j : Int, e = .returned (.tuple #[.int .i64 0, .int .i64 j, .int .i64 30])) ∧ Below w.heap.size w w' := by
  subst hk
  refine (apply_calls m s w hs hlen).mono fun e w' h => ?_
  obtain ⟨hb, h⟩ := h
  rw [show parseC (s.data.toList.length + 1) s.data.toList = none from hp] at h
  exact ⟨h, hb⟩

theorem pz_join (x y : ByteArray) : pz (x ++ ⟨#[44]⟩ ++ y) = (pz x).bind fun l => (pz y).map (l ++ ·) := by
  have e : (x ++ ⟨#[44]⟩ ++ y).data.toList = x.data.toList ++ 44 :: y.data.toList := by simp
  unfold pz
  rw [e]
  exact parseC_join _ _ rfl _ _ _ (by omega) (by simp; omega)
theorem applyAll_app (m : M) (a b : List Cl) : applyAll m (a ++ b) = applyAll (applyAll m a) b := by simp [applyAll]

structure JS (w w' : World) : Prop where
  bel : Below w.heap.size w w'
  sh : Shifts w'
theorem JS.later {w w' w'' : World} (h : JS w w') (hb : Below w'.heap.size w' w'') : JS w w'' := ⟨bel_then h.bel h.bel.size hb, h.sh.later hb⟩
theorem JS.start {w : World} (h : Shifts w) (n : Nat) : JS w (w.drewN n) := ⟨⟨rfl, rfl, rfl, Nat.le_refl _, fun _ _ => rfl⟩, h⟩

theorem apply_any (m : M) (s : ByteArray) (k : Int) (w : World) (hs : Shifts w) (hlen : s.size ≤ 100) (hk : k = val m) :
    Calls Tryd.prog 13 #[.int .i64 k, .string s] w fun e w' => (∃ a j b : Int, e = .returned (.tuple #[.int .i64 a, .int .i64 j, .int .i64 b])) ∧ Below w.heap.size w w' := by
  subst hk
  refine (apply_calls m s w hs hlen).mono fun e w' h => ?_
  obtain ⟨hb, h⟩ := h
  cases hp : parseC (s.data.toList.length + 1) s.data.toList with
  | none =>
    rw [hp] at h
    obtain ⟨j, h⟩ := h
    exact ⟨⟨_, _, _, h⟩, hb⟩
  | some l =>
    rw [hp] at h
    exact ⟨⟨_, _, _, h⟩, hb⟩

set_option maxHeartbeats 2000000 in
theorem joins_0 (mode : Int) (x y : ByteArray) (w : World) (hs : Shifts w) (h0 : 0 ≤ mode) (h1 : mode ≤ 65535) (hx : x.size ≤ 9223372036854775807) (hy : y.size ≤ 9223372036854775807)
    (hx40 : x.size ≤ 40) (hy40 : y.size ≤ 40) :
    Calls Tryd.prog 5 #[.int .u16 mode, .string x, .string y] w fun e w' => e = .returned (.bool true) ∧ Below w.heap.size w w' := by
  have HM := Lib.hid (val_ofI (m := mode % 2048) (by omega) (by omega)).symm
  have HZ := Lib.hid (val_ofI (m := 0) (by omega) (by omega)).symm
  have HLX := Lib.hid (show ByteArray.size x ≤ 100 by first | omega | (rw [ByteArray.size_extract]; omega))
  have HLY := Lib.hid (show ByteArray.size y ≤ 100 by first | omega | (rw [ByteArray.size_extract]; omega))
  have HLZ := Lib.hid (show ByteArray.size (x ++ ⟨#[44]⟩ ++ y) ≤ 100 by first | (simp only [ByteArray.size_append, ByteArray.size_extract]; show _ + 1 + _ ≤ 100; omega) | (simp only [ByteArray.size_append]; show _ + 1 + _ ≤ 100; omega))
  have hz := pz_join x y
  cases hp : pz x with
  | none =>
      rw [hp] at hz
      simp only [Option.bind_none] at hz
      have HP := Lib.hid hp
      have HPZ := Lib.hid hz
      clear hp hz
      go_enter Tryd.func5, Tryd.ntmps5
      go_wp2
      go_quiet (fail)
      have HJ := Lib.hid (JS.start hs nq)
      go_wp2_with (first
        | (go_at_call 10; with_reducible refine (known_calls _ HJ.out.sh).mono ?_; rintro e w4 ⟨rfl, hb⟩; have HJ := Lib.hid (HJ.out.later hb); clear hb)
        | (go_at_call 13; with_reducible refine (apply_bad (ofI (mode % 2048)) x _ _ HJ.out.sh HLX.out HP.out HM.out).mono ?_; rintro e w4 ⟨⟨j, rfl⟩, hb⟩; have HJ := Lib.hid (HJ.out.later hb); clear hb)
        | (go_at_call 13; with_reducible refine (apply_any (ofI 0) y _ _ HJ.out.sh HLY.out HZ.out).mono ?_; rintro e w4 ⟨⟨a2, j2, b2, rfl⟩, hb⟩; have HJ := Lib.hid (HJ.out.later hb); clear hb)
        | (go_at_call 13; with_reducible refine (apply_bad (ofI (mode % 2048)) (x ++ ⟨#[44]⟩ ++ y) _ _ HJ.out.sh HLZ.out HPZ.out HM.out).mono ?_; rintro e w4 ⟨⟨j, rfl⟩, hb⟩; have HJ := Lib.hid (HJ.out.later hb); clear hb))
      all_goals go_ret
      all_goals exact ⟨rfl, HJ.out.bel⟩
  | some l =>
    rw [hp] at hz
    simp only [Option.bind_some] at hz
    cases hq : pz y with
    | none =>
      rw [hq] at hz
      simp only [Option.map_none] at hz
      have HP := Lib.hid hp
      have HPZ := Lib.hid hz
      have HQ := Lib.hid hq
      clear hp hz hq
      go_enter Tryd.func5, Tryd.ntmps5
      go_wp2
      go_quiet (fail)
      have HJ := Lib.hid (JS.start hs nq)
      go_wp2_with (first
        | (go_at_call 10; with_reducible refine (known_calls _ HJ.out.sh).mono ?_; rintro e w4 ⟨rfl, hb⟩; have HJ := Lib.hid (HJ.out.later hb); clear hb)
        | (go_at_call 13; with_reducible refine (apply_ok (ofI (mode % 2048)) x l _ _ HJ.out.sh HLX.out HP.out HM.out).mono ?_; rintro e w4 ⟨rfl, hb⟩; have HJ := Lib.hid (HJ.out.later hb); clear hb)
        | (go_at_call 13; with_reducible refine (apply_bad (applyAll (ofI (mode % 2048)) l) y _ _ HJ.out.sh HLY.out HQ.out rfl).mono ?_; rintro e w4 ⟨⟨j, rfl⟩, hb⟩; have HJ := Lib.hid (HJ.out.later hb); clear hb)
        | (go_at_call 13; with_reducible refine (apply_bad (ofI (mode % 2048)) (x ++ ⟨#[44]⟩ ++ y) _ _ HJ.out.sh HLZ.out HPZ.out HM.out).mono ?_; rintro e w4 ⟨⟨j, rfl⟩, hb⟩; have HJ := Lib.hid (HJ.out.later hb); clear hb))
      all_goals go_ret
      all_goals exact ⟨rfl, HJ.out.bel⟩
    | some l2 =>
      rw [hq] at hz
      simp only [Option.map_some] at hz
      have HP := Lib.hid hp
      have HPZ := Lib.hid hz
      have HQ := Lib.hid hq
      clear hp hz hq
      go_enter Tryd.func5, Tryd.ntmps5
      go_wp2
      go_quiet (fail)
      have HJ := Lib.hid (JS.start hs nq)
      go_wp2_with (first
        | (go_at_call 10; with_reducible refine (known_calls _ HJ.out.sh).mono ?_; rintro e w4 ⟨rfl, hb⟩; have HJ := Lib.hid (HJ.out.later hb); clear hb)
        | (go_at_call 13; with_reducible refine (apply_ok (ofI (mode % 2048)) x l _ _ HJ.out.sh HLX.out HP.out HM.out).mono ?_; rintro e w4 ⟨rfl, hb⟩; have HJ := Lib.hid (HJ.out.later hb); clear hb)
        | (go_at_call 13; with_reducible refine (apply_ok (applyAll (ofI (mode % 2048)) l) y l2 _ _ HJ.out.sh HLY.out HQ.out rfl).mono ?_; rintro e w4 ⟨rfl, hb⟩; have HJ := Lib.hid (HJ.out.later hb); clear hb)
        | (go_at_call 13; with_reducible refine (apply_ok (ofI (mode % 2048)) (x ++ ⟨#[44]⟩ ++ y) (l ++ l2) _ _ HJ.out.sh HLZ.out HPZ.out HM.out).mono ?_; rintro e w4 ⟨rfl, hb⟩; have HJ := Lib.hid (HJ.out.later hb); clear hb))
      all_goals go_ret
      all_goals exact ⟨by first | rfl | (rw [applyAll_app]; simp), HJ.out.bel⟩

set_option maxHeartbeats 2000000 in
theorem joins_1 (mode : Int) (x y : ByteArray) (w : World) (hs : Shifts w) (h0 : 0 ≤ mode) (h1 : mode ≤ 65535) (hx : x.size ≤ 9223372036854775807) (hy : y.size ≤ 9223372036854775807)
    (hx40 : x.size ≤ 40) (hy40 : 40 < y.size) :
    Calls Tryd.prog 5 #[.int .u16 mode, .string x, .string y] w fun e w' => e = .returned (.bool true) ∧ Below w.heap.size w w' := by
  have HM := Lib.hid (val_ofI (m := mode % 2048) (by omega) (by omega)).symm
  have HZ := Lib.hid (val_ofI (m := 0) (by omega) (by omega)).symm
  have HLX := Lib.hid (show ByteArray.size x ≤ 100 by first | omega | (rw [ByteArray.size_extract]; omega))
  have HLY := Lib.hid (show ByteArray.size (y.extract 0 40) ≤ 100 by first | omega | (rw [ByteArray.size_extract]; omega))
  have HLZ := Lib.hid (show ByteArray.size (x ++ ⟨#[44]⟩ ++ (y.extract 0 40)) ≤ 100 by first | (simp only [ByteArray.size_append, ByteArray.size_extract]; show _ + 1 + _ ≤ 100; omega) | (simp only [ByteArray.size_append]; show _ + 1 + _ ≤ 100; omega))
  have hz := pz_join x (y.extract 0 40)
  cases hp : pz x with
  | none =>
      rw [hp] at hz
      simp only [Option.bind_none] at hz
      have HP := Lib.hid hp
      have HPZ := Lib.hid hz
      clear hp hz
      go_enter Tryd.func5, Tryd.ntmps5
      go_wp2
      go_quiet (fail)
      have HJ := Lib.hid (JS.start hs nq)
      go_wp2_with (first
        | (go_at_call 10; with_reducible refine (known_calls _ HJ.out.sh).mono ?_; rintro e w4 ⟨rfl, hb⟩; have HJ := Lib.hid (HJ.out.later hb); clear hb)
        | (go_at_call 13; with_reducible refine (apply_bad (ofI (mode % 2048)) x _ _ HJ.out.sh HLX.out HP.out HM.out).mono ?_; rintro e w4 ⟨⟨j, rfl⟩, hb⟩; have HJ := Lib.hid (HJ.out.later hb); clear hb)
        | (go_at_call 13; with_reducible refine (apply_any (ofI 0) (y.extract 0 40) _ _ HJ.out.sh HLY.out HZ.out).mono ?_; rintro e w4 ⟨⟨a2, j2, b2, rfl⟩, hb⟩; have HJ := Lib.hid (HJ.out.later hb); clear hb)
        | (go_at_call 13; with_reducible refine (apply_bad (ofI (mode % 2048)) (x ++ ⟨#[44]⟩ ++ (y.extract 0 40)) _ _ HJ.out.sh HLZ.out HPZ.out HM.out).mono ?_; rintro e w4 ⟨⟨j, rfl⟩, hb⟩; have HJ := Lib.hid (HJ.out.later hb); clear hb))
      all_goals go_ret
      all_goals exact ⟨rfl, HJ.out.bel⟩
  | some l =>
    rw [hp] at hz
    simp only [Option.bind_some] at hz
    cases hq : pz (y.extract 0 40) with
    | none =>
      rw [hq] at hz
      simp only [Option.map_none] at hz
      have HP := Lib.hid hp
      have HPZ := Lib.hid hz
      have HQ := Lib.hid hq
      clear hp hz hq
      go_enter Tryd.func5, Tryd.ntmps5
      go_wp2
      go_quiet (fail)
      have HJ := Lib.hid (JS.start hs nq)
      go_wp2_with (first
        | (go_at_call 10; with_reducible refine (known_calls _ HJ.out.sh).mono ?_; rintro e w4 ⟨rfl, hb⟩; have HJ := Lib.hid (HJ.out.later hb); clear hb)
        | (go_at_call 13; with_reducible refine (apply_ok (ofI (mode % 2048)) x l _ _ HJ.out.sh HLX.out HP.out HM.out).mono ?_; rintro e w4 ⟨rfl, hb⟩; have HJ := Lib.hid (HJ.out.later hb); clear hb)
        | (go_at_call 13; with_reducible refine (apply_bad (applyAll (ofI (mode % 2048)) l) (y.extract 0 40) _ _ HJ.out.sh HLY.out HQ.out rfl).mono ?_; rintro e w4 ⟨⟨j, rfl⟩, hb⟩; have HJ := Lib.hid (HJ.out.later hb); clear hb)
        | (go_at_call 13; with_reducible refine (apply_bad (ofI (mode % 2048)) (x ++ ⟨#[44]⟩ ++ (y.extract 0 40)) _ _ HJ.out.sh HLZ.out HPZ.out HM.out).mono ?_; rintro e w4 ⟨⟨j, rfl⟩, hb⟩; have HJ := Lib.hid (HJ.out.later hb); clear hb))
      all_goals go_ret
      all_goals exact ⟨rfl, HJ.out.bel⟩
    | some l2 =>
      rw [hq] at hz
      simp only [Option.map_some] at hz
      have HP := Lib.hid hp
      have HPZ := Lib.hid hz
      have HQ := Lib.hid hq
      clear hp hz hq
      go_enter Tryd.func5, Tryd.ntmps5
      go_wp2
      go_quiet (fail)
      have HJ := Lib.hid (JS.start hs nq)
      go_wp2_with (first
        | (go_at_call 10; with_reducible refine (known_calls _ HJ.out.sh).mono ?_; rintro e w4 ⟨rfl, hb⟩; have HJ := Lib.hid (HJ.out.later hb); clear hb)
        | (go_at_call 13; with_reducible refine (apply_ok (ofI (mode % 2048)) x l _ _ HJ.out.sh HLX.out HP.out HM.out).mono ?_; rintro e w4 ⟨rfl, hb⟩; have HJ := Lib.hid (HJ.out.later hb); clear hb)
        | (go_at_call 13; with_reducible refine (apply_ok (applyAll (ofI (mode % 2048)) l) (y.extract 0 40) l2 _ _ HJ.out.sh HLY.out HQ.out rfl).mono ?_; rintro e w4 ⟨rfl, hb⟩; have HJ := Lib.hid (HJ.out.later hb); clear hb)
        | (go_at_call 13; with_reducible refine (apply_ok (ofI (mode % 2048)) (x ++ ⟨#[44]⟩ ++ (y.extract 0 40)) (l ++ l2) _ _ HJ.out.sh HLZ.out HPZ.out HM.out).mono ?_; rintro e w4 ⟨rfl, hb⟩; have HJ := Lib.hid (HJ.out.later hb); clear hb))
      all_goals go_ret
      all_goals exact ⟨by first | rfl | (rw [applyAll_app]; simp), HJ.out.bel⟩

set_option maxHeartbeats 2000000 in
theorem joins_2 (mode : Int) (x y : ByteArray) (w : World) (hs : Shifts w) (h0 : 0 ≤ mode) (h1 : mode ≤ 65535) (hx : x.size ≤ 9223372036854775807) (hy : y.size ≤ 9223372036854775807)
    (hx40 : 40 < x.size) (hy40 : y.size ≤ 40) :
    Calls Tryd.prog 5 #[.int .u16 mode, .string x, .string y] w fun e w' => e = .returned (.bool true) ∧ Below w.heap.size w w' := by
  have HM := Lib.hid (val_ofI (m := mode % 2048) (by omega) (by omega)).symm
  have HZ := Lib.hid (val_ofI (m := 0) (by omega) (by omega)).symm
  have HLX := Lib.hid (show ByteArray.size (x.extract 0 40) ≤ 100 by first | omega | (rw [ByteArray.size_extract]; omega))
  have HLY := Lib.hid (show ByteArray.size y ≤ 100 by first | omega | (rw [ByteArray.size_extract]; omega))
  have HLZ := Lib.hid (show ByteArray.size ((x.extract 0 40) ++ ⟨#[44]⟩ ++ y) ≤ 100 by first | (simp only [ByteArray.size_append, ByteArray.size_extract]; show _ + 1 + _ ≤ 100; omega) | (simp only [ByteArray.size_append]; show _ + 1 + _ ≤ 100; omega))
  have hz := pz_join (x.extract 0 40) y
  cases hp : pz (x.extract 0 40) with
  | none =>
      rw [hp] at hz
      simp only [Option.bind_none] at hz
      have HP := Lib.hid hp
      have HPZ := Lib.hid hz
      clear hp hz
      go_enter Tryd.func5, Tryd.ntmps5
      go_wp2
      go_quiet (fail)
      have HJ := Lib.hid (JS.start hs nq)
      go_wp2_with (first
        | (go_at_call 10; with_reducible refine (known_calls _ HJ.out.sh).mono ?_; rintro e w4 ⟨rfl, hb⟩; have HJ := Lib.hid (HJ.out.later hb); clear hb)
        | (go_at_call 13; with_reducible refine (apply_bad (ofI (mode % 2048)) (x.extract 0 40) _ _ HJ.out.sh HLX.out HP.out HM.out).mono ?_; rintro e w4 ⟨⟨j, rfl⟩, hb⟩; have HJ := Lib.hid (HJ.out.later hb); clear hb)
        | (go_at_call 13; with_reducible refine (apply_any (ofI 0) y _ _ HJ.out.sh HLY.out HZ.out).mono ?_; rintro e w4 ⟨⟨a2, j2, b2, rfl⟩, hb⟩; have HJ := Lib.hid (HJ.out.later hb); clear hb)
        | (go_at_call 13; with_reducible refine (apply_bad (ofI (mode % 2048)) ((x.extract 0 40) ++ ⟨#[44]⟩ ++ y) _ _ HJ.out.sh HLZ.out HPZ.out HM.out).mono ?_; rintro e w4 ⟨⟨j, rfl⟩, hb⟩; have HJ := Lib.hid (HJ.out.later hb); clear hb))
      all_goals go_ret
      all_goals exact ⟨rfl, HJ.out.bel⟩
  | some l =>
    rw [hp] at hz
    simp only [Option.bind_some] at hz
    cases hq : pz y with
    | none =>
      rw [hq] at hz
      simp only [Option.map_none] at hz
      have HP := Lib.hid hp
      have HPZ := Lib.hid hz
      have HQ := Lib.hid hq
      clear hp hz hq
      go_enter Tryd.func5, Tryd.ntmps5
      go_wp2
      go_quiet (fail)
      have HJ := Lib.hid (JS.start hs nq)
      go_wp2_with (first
        | (go_at_call 10; with_reducible refine (known_calls _ HJ.out.sh).mono ?_; rintro e w4 ⟨rfl, hb⟩; have HJ := Lib.hid (HJ.out.later hb); clear hb)
        | (go_at_call 13; with_reducible refine (apply_ok (ofI (mode % 2048)) (x.extract 0 40) l _ _ HJ.out.sh HLX.out HP.out HM.out).mono ?_; rintro e w4 ⟨rfl, hb⟩; have HJ := Lib.hid (HJ.out.later hb); clear hb)
        | (go_at_call 13; with_reducible refine (apply_bad (applyAll (ofI (mode % 2048)) l) y _ _ HJ.out.sh HLY.out HQ.out rfl).mono ?_; rintro e w4 ⟨⟨j, rfl⟩, hb⟩; have HJ := Lib.hid (HJ.out.later hb); clear hb)
        | (go_at_call 13; with_reducible refine (apply_bad (ofI (mode % 2048)) ((x.extract 0 40) ++ ⟨#[44]⟩ ++ y) _ _ HJ.out.sh HLZ.out HPZ.out HM.out).mono ?_; rintro e w4 ⟨⟨j, rfl⟩, hb⟩; have HJ := Lib.hid (HJ.out.later hb); clear hb))
      all_goals go_ret
      all_goals exact ⟨rfl, HJ.out.bel⟩
    | some l2 =>
      rw [hq] at hz
      simp only [Option.map_some] at hz
      have HP := Lib.hid hp
      have HPZ := Lib.hid hz
      have HQ := Lib.hid hq
      clear hp hz hq
      go_enter Tryd.func5, Tryd.ntmps5
      go_wp2
      go_quiet (fail)
      have HJ := Lib.hid (JS.start hs nq)
      go_wp2_with (first
        | (go_at_call 10; with_reducible refine (known_calls _ HJ.out.sh).mono ?_; rintro e w4 ⟨rfl, hb⟩; have HJ := Lib.hid (HJ.out.later hb); clear hb)
        | (go_at_call 13; with_reducible refine (apply_ok (ofI (mode % 2048)) (x.extract 0 40) l _ _ HJ.out.sh HLX.out HP.out HM.out).mono ?_; rintro e w4 ⟨rfl, hb⟩; have HJ := Lib.hid (HJ.out.later hb); clear hb)
        | (go_at_call 13; with_reducible refine (apply_ok (applyAll (ofI (mode % 2048)) l) y l2 _ _ HJ.out.sh HLY.out HQ.out rfl).mono ?_; rintro e w4 ⟨rfl, hb⟩; have HJ := Lib.hid (HJ.out.later hb); clear hb)
        | (go_at_call 13; with_reducible refine (apply_ok (ofI (mode % 2048)) ((x.extract 0 40) ++ ⟨#[44]⟩ ++ y) (l ++ l2) _ _ HJ.out.sh HLZ.out HPZ.out HM.out).mono ?_; rintro e w4 ⟨rfl, hb⟩; have HJ := Lib.hid (HJ.out.later hb); clear hb))
      all_goals go_ret
      all_goals exact ⟨by first | rfl | (rw [applyAll_app]; simp), HJ.out.bel⟩

set_option maxHeartbeats 2000000 in
theorem joins_3 (mode : Int) (x y : ByteArray) (w : World) (hs : Shifts w) (h0 : 0 ≤ mode) (h1 : mode ≤ 65535) (hx : x.size ≤ 9223372036854775807) (hy : y.size ≤ 9223372036854775807)
    (hx40 : 40 < x.size) (hy40 : 40 < y.size) :
    Calls Tryd.prog 5 #[.int .u16 mode, .string x, .string y] w fun e w' => e = .returned (.bool true) ∧ Below w.heap.size w w' := by
  have HM := Lib.hid (val_ofI (m := mode % 2048) (by omega) (by omega)).symm
  have HZ := Lib.hid (val_ofI (m := 0) (by omega) (by omega)).symm
  have HLX := Lib.hid (show ByteArray.size (x.extract 0 40) ≤ 100 by first | omega | (rw [ByteArray.size_extract]; omega))
  have HLY := Lib.hid (show ByteArray.size (y.extract 0 40) ≤ 100 by first | omega | (rw [ByteArray.size_extract]; omega))
  have HLZ := Lib.hid (show ByteArray.size ((x.extract 0 40) ++ ⟨#[44]⟩ ++ (y.extract 0 40)) ≤ 100 by first | (simp only [ByteArray.size_append, ByteArray.size_extract]; show _ + 1 + _ ≤ 100; omega) | (simp only [ByteArray.size_append]; show _ + 1 + _ ≤ 100; omega))
  have hz := pz_join (x.extract 0 40) (y.extract 0 40)
  cases hp : pz (x.extract 0 40) with
  | none =>
      rw [hp] at hz
      simp only [Option.bind_none] at hz
      have HP := Lib.hid hp
      have HPZ := Lib.hid hz
      clear hp hz
      go_enter Tryd.func5, Tryd.ntmps5
      go_wp2
      go_quiet (fail)
      have HJ := Lib.hid (JS.start hs nq)
      go_wp2_with (first
        | (go_at_call 10; with_reducible refine (known_calls _ HJ.out.sh).mono ?_; rintro e w4 ⟨rfl, hb⟩; have HJ := Lib.hid (HJ.out.later hb); clear hb)
        | (go_at_call 13; with_reducible refine (apply_bad (ofI (mode % 2048)) (x.extract 0 40) _ _ HJ.out.sh HLX.out HP.out HM.out).mono ?_; rintro e w4 ⟨⟨j, rfl⟩, hb⟩; have HJ := Lib.hid (HJ.out.later hb); clear hb)
        | (go_at_call 13; with_reducible refine (apply_any (ofI 0) (y.extract 0 40) _ _ HJ.out.sh HLY.out HZ.out).mono ?_; rintro e w4 ⟨⟨a2, j2, b2, rfl⟩, hb⟩; have HJ := Lib.hid (HJ.out.later hb); clear hb)
        | (go_at_call 13; with_reducible refine (apply_bad (ofI (mode % 2048)) ((x.extract 0 40) ++ ⟨#[44]⟩ ++ (y.extract 0 40)) _ _ HJ.out.sh HLZ.out HPZ.out HM.out).mono ?_; rintro e w4 ⟨⟨j, rfl⟩, hb⟩; have HJ := Lib.hid (HJ.out.later hb); clear hb))
      all_goals go_ret
      all_goals exact ⟨rfl, HJ.out.bel⟩
  | some l =>
    rw [hp] at hz
    simp only [Option.bind_some] at hz
    cases hq : pz (y.extract 0 40) with
    | none =>
      rw [hq] at hz
      simp only [Option.map_none] at hz
      have HP := Lib.hid hp
      have HPZ := Lib.hid hz
      have HQ := Lib.hid hq
      clear hp hz hq
      go_enter Tryd.func5, Tryd.ntmps5
      go_wp2
      go_quiet (fail)
      have HJ := Lib.hid (JS.start hs nq)
      go_wp2_with (first
        | (go_at_call 10; with_reducible refine (known_calls _ HJ.out.sh).mono ?_; rintro e w4 ⟨rfl, hb⟩; have HJ := Lib.hid (HJ.out.later hb); clear hb)
        | (go_at_call 13; with_reducible refine (apply_ok (ofI (mode % 2048)) (x.extract 0 40) l _ _ HJ.out.sh HLX.out HP.out HM.out).mono ?_; rintro e w4 ⟨rfl, hb⟩; have HJ := Lib.hid (HJ.out.later hb); clear hb)
        | (go_at_call 13; with_reducible refine (apply_bad (applyAll (ofI (mode % 2048)) l) (y.extract 0 40) _ _ HJ.out.sh HLY.out HQ.out rfl).mono ?_; rintro e w4 ⟨⟨j, rfl⟩, hb⟩; have HJ := Lib.hid (HJ.out.later hb); clear hb)
        | (go_at_call 13; with_reducible refine (apply_bad (ofI (mode % 2048)) ((x.extract 0 40) ++ ⟨#[44]⟩ ++ (y.extract 0 40)) _ _ HJ.out.sh HLZ.out HPZ.out HM.out).mono ?_; rintro e w4 ⟨⟨j, rfl⟩, hb⟩; have HJ := Lib.hid (HJ.out.later hb); clear hb))
      all_goals go_ret
      all_goals exact ⟨rfl, HJ.out.bel⟩
    | some l2 =>
      rw [hq] at hz
      simp only [Option.map_some] at hz
      have HP := Lib.hid hp
      have HPZ := Lib.hid hz
      have HQ := Lib.hid hq
      clear hp hz hq
      go_enter Tryd.func5, Tryd.ntmps5
      go_wp2
      go_quiet (fail)
      have HJ := Lib.hid (JS.start hs nq)
      go_wp2_with (first
        | (go_at_call 10; with_reducible refine (known_calls _ HJ.out.sh).mono ?_; rintro e w4 ⟨rfl, hb⟩; have HJ := Lib.hid (HJ.out.later hb); clear hb)
        | (go_at_call 13; with_reducible refine (apply_ok (ofI (mode % 2048)) (x.extract 0 40) l _ _ HJ.out.sh HLX.out HP.out HM.out).mono ?_; rintro e w4 ⟨rfl, hb⟩; have HJ := Lib.hid (HJ.out.later hb); clear hb)
        | (go_at_call 13; with_reducible refine (apply_ok (applyAll (ofI (mode % 2048)) l) (y.extract 0 40) l2 _ _ HJ.out.sh HLY.out HQ.out rfl).mono ?_; rintro e w4 ⟨rfl, hb⟩; have HJ := Lib.hid (HJ.out.later hb); clear hb)
        | (go_at_call 13; with_reducible refine (apply_ok (ofI (mode % 2048)) ((x.extract 0 40) ++ ⟨#[44]⟩ ++ (y.extract 0 40)) (l ++ l2) _ _ HJ.out.sh HLZ.out HPZ.out HM.out).mono ?_; rintro e w4 ⟨rfl, hb⟩; have HJ := Lib.hid (HJ.out.later hb); clear hb))
      all_goals go_ret
      all_goals exact ⟨by first | rfl | (rw [applyAll_app]; simp), HJ.out.bel⟩

theorem joins_calls (mode : Int) (x y : ByteArray) (w : World) (hs : Shifts w) (h0 : 0 ≤ mode) (h1 : mode ≤ 65535) (hx : x.size ≤ 9223372036854775807) (hy : y.size ≤ 9223372036854775807) :
    Calls Tryd.prog 5 #[.int .u16 mode, .string x, .string y] w fun e w' => e = .returned (.bool true) ∧ Below w.heap.size w w' := by
  rcases Nat.lt_or_ge 40 x.size with a | a <;> rcases Nat.lt_or_ge 40 y.size with b | b
  · exact joins_3 mode x y w hs h0 h1 hx hy a b
  · exact joins_2 mode x y w hs h0 h1 hx hy a b
  · exact joins_1 mode x y w hs h0 h1 hx hy a b
  · exact joins_0 mode x y w hs h0 h1 hx hy a b

end Go.Proofs.YtkjmmpdmbdimoaaDoor
