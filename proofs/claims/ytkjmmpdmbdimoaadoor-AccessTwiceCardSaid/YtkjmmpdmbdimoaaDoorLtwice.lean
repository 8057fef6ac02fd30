/- The walk of AccessTwice. -/
import Derived.Test.YtkjmmpdmbdimoaaDoorLjoins
import Derived.Test.YtkjmmpdmbdimoaaDoorA15
import Derived.Test.YtkjmmpdmbdimoaaDoorS5
namespace Go.Proofs.YtkjmmpdmbdimoaaDoor
open Go.RowKit Go.Own

/-- Between the calls: the clause's cells at block g. -/
structure TW (w0 : World) (g : Nat) (c : Cl) (w : World) : Prop where
  bel : Below w0.heap.size w0 w
  sh : Shifts w
  lt : g < w.heap.size
  c0 : w.cell? ⟨g, 0, none⟩ = some (.bool c.u)
  c1 : w.cell? ⟨g, 1, none⟩ = some (.bool c.g)
  c2 : w.cell? ⟨g, 2, none⟩ = some (.bool c.o)
theorem TW.later {w0 w w' : World} {g : Nat} {c : Cl} (h : TW w0 g c w) (hb : Below w.heap.size w w') : TW w0 g c w' :=
  ⟨bel_then h.bel h.bel.size hb, h.sh.later hb, Nat.lt_of_lt_of_le h.lt hb.size, (hb.cell (p := ⟨g, 0, none⟩) h.lt).trans h.c0, (hb.cell (p := ⟨g, 1, none⟩) h.lt).trans h.c1, (hb.cell (p := ⟨g, 2, none⟩) h.lt).trans h.c2⟩

theorem bits_is (m c r : Int) (w : World) (hs : Shifts w) (h : bitsI m c = r) : Calls Tryd.prog 14 #[.int .i64 m, .int .i64 c] w fun e w' => e = .returned (.int .i64 r) ∧ w = w' := by
  subst h
  exact bits_calls m c w hs
theorem rbits_is (m c r : Int) (w : World) (h : bitsI m c = r) : Calls Tryd.prog 15 #[.int .i64 m, .int .i64 c] w fun e w' => e = .returned (.int .i64 r) ∧ w = w' := by
  subst h
  exact rbits_calls m c w

theorem rcl_none (s : ByteArray) (w : World) (hs : s.size ≤ 100) (hp : pz s = none) : Calls Tryd.prog 12 #[.string s] w fun e w' => (∃ j : Int, e = .returned (.tuple #[.slice none 0 0, .int .i64 j]) ∧ 0 ≤ j) ∧ Below w.heap.size w w' := by
  refine (rclauses_calls s w hs).mono fun e w' h => ?_
  obtain ⟨hb, h⟩ := h
  rw [show parseC (s.data.toList.length + 1) s.data.toList = none from hp] at h
  obtain ⟨j, h0, _, he⟩ := h
  exact ⟨⟨j, he, h0⟩, hb⟩
theorem own_len {w : World} {B e size n : Nat} {v : Value} {xs : List Value} (h : w.ownsRow B e size v n xs) : ∃ a cap, v = .slice a n cap := by
  rcases h.2 with ⟨h1, h2⟩ | ⟨g, cap, cur, hv, _⟩
  · subst h2; exact ⟨none, 0, h1⟩
  · exact ⟨some ⟨g, 0, none⟩, cap, hv⟩
theorem rcl_many (s : ByteArray) (l : List Cl) (n : Nat) (w : World) (hs : s.size ≤ 100) (hp : pz s = some l) (hn : l.length = n) : Calls Tryd.prog 12 #[.string s] w fun e w' => (∃ a cap, e = .returned (.tuple #[.slice a n cap, .int .i64 (-1)])) ∧ Below w.heap.size w w' := by
  refine (rclauses_calls s w hs).mono fun e w' h => ?_
  obtain ⟨hb, h⟩ := h
  rw [show parseC (s.data.toList.length + 1) s.data.toList = some l from hp] at h
  obtain ⟨v, he, ho⟩ := h
  obtain ⟨a, cap, rfl⟩ := own_len ho
  rw [hn] at he
  exact ⟨⟨a, cap, he⟩, hb⟩
theorem rcl_one (s : ByteArray) (c : Cl) (w : World) (hs : s.size ≤ 100) (hp : pz s = some [c]) (hsh : Shifts w) : Calls Tryd.prog 12 #[.string s] w fun e w' => (∃ g cap, e = .returned (.tuple #[.slice (some ⟨g, 0, none⟩) 1 cap, .int .i64 (-1)]) ∧ TW w g c w') ∧ Below w.heap.size w w' := by
  refine (rclauses_calls s w hs).mono fun e w' h => ?_
  obtain ⟨hb, h⟩ := h
  rw [show parseC (s.data.toList.length + 1) s.data.toList = some [c] from hp] at h
  obtain ⟨v, he, ho⟩ := h
  rcases ho.2 with ⟨_, h2⟩ | ⟨g, cap, cur, hv, hg, hblk, _⟩
  · cases h2
  · have hc := World.ownsRow.cells ho (g := g) (by rw [hv]; rfl)
    have hadd : ∀ j, (⟨g, 0, none⟩ : Addr).add j = ⟨g, j, none⟩ := fun j => by unfold Addr.add; split <;> simp_all
    have k0 := hc 0 _ rfl
    have k1 := hc 1 _ rfl
    have k2 := hc 2 _ rfl
    rw [hadd] at k0 k1 k2
    subst hv
    exact ⟨⟨g, cap, he, ⟨hb, hsh.later hb, lt_of_block hblk, k0, k1, k2⟩⟩, hb⟩

theorem JS0 {w : World} (h : Shifts w) : JS w w := ⟨Below.refl _ _, h⟩
theorem TW.from {w0 w1 w : World} {g : Nat} {c : Cl} (h : JS w0 w1) (k : TW w1 g c w) : TW w0 g c w :=
  ⟨bel_then h.bel h.bel.size k.bel, k.sh, k.lt, k.c0, k.c1, k.c2⟩

set_option maxHeartbeats 4000000 in
theorem twice_0 (mode : Int) (s : ByteArray) (w : World) (hs : Shifts w) (h0 : 0 ≤ mode) (h1 : mode ≤ 65535) (hx : s.size ≤ 9223372036854775807) (hx40 : s.size ≤ 40) :
    Calls Tryd.prog 4 #[.int .u16 mode, .string s] w fun e w' => e = .returned (.bool true) ∧ Below w.heap.size w w' := by
  have HM := Lib.hid (val_ofI (m := mode % 2048) (by omega) (by omega)).symm
  have HL := Lib.hid (show ByteArray.size s ≤ 100 by first | omega | (rw [ByteArray.size_extract]; omega))
  cases hp : pz s with
  | none =>
    have HP := Lib.hid hp
    clear hp
    have HJ := Lib.hid (JS0 hs)
    clear hs
    go_enter Tryd.func4, Tryd.ntmps4
    go_wp2_with (first
      | (go_at_call 10; (with_reducible refine (known_calls _ HJ.out.sh).mono ?_); rintro e w4 ⟨rfl, hb⟩; have HJ := Lib.hid (HJ.out.later hb); clear hb)
      | (go_at_call 12; (with_reducible refine (rcl_none s _ HL.out HP.out).mono ?_); rintro e w4 ⟨⟨j, rfl, hj⟩, hb⟩; have HJ := Lib.hid (HJ.out.later hb); clear hb))
    go_ret
    exact ⟨rfl, HJ.out.bel⟩
  | some l =>
    by_cases hl : l.length = 1
    · obtain ⟨c, rfl⟩ := List.length_eq_one_iff.1 hl
      have HP := Lib.hid hp
      clear hp hl
      obtain ⟨a, ha⟩ : ∃ a, a = val (applyC (ofI (mode % 2048)) c) := ⟨_, rfl⟩
      obtain ⟨m, hm⟩ : ∃ m, m = mode % 2048 := ⟨_, rfl⟩
      have HA := Lib.hid ha
      have HM2 := Lib.hid hm
      have A1 := fun w hs => apply_ok (ofI (mode % 2048)) s [c] (mode % 2048) w hs HL.out HP.out HM.out
      have A2 := fun w hs => apply_ok (applyC (ofI (mode % 2048)) c) s [c] a w hs HL.out HP.out ha
      rw [show applyAll (ofI (mode % 2048)) [c] = applyC (ofI (mode % 2048)) c from rfl, ← ha] at A1
      rw [show applyAll (applyC (ofI (mode % 2048)) c) [c] = applyC (applyC (ofI (mode % 2048)) c) c from rfl, applyC_idem, ← ha] at A2
      have B := fun (k : Nat) (hk : k < 3) (hf : flagAt c k = false) => (bitsI_keeps (ofI (mode % 2048)) c k hk hf)
      rw [← ha, ← HM.out] at B
      have HB := Lib.hid B
      have HA1 := Lib.hid A1
      have HA2 := Lib.hid A2
      clear A1 A2 B ha hm HM2
      have HJ := Lib.hid (JS0 hs)
      clear hs
      go_enter Tryd.func4, Tryd.ntmps4
      go_wp2_with (first
        | (go_at_call 10; (with_reducible refine (known_calls _ HJ.out.sh).mono ?_); rintro e w4 ⟨rfl, hb⟩; have HJ := Lib.hid (HJ.out.later hb); clear hb)
        | (go_at_call 12; (with_reducible refine (rcl_one s c _ HL.out HP.out HJ.out.sh).mono ?_); rintro e w4 ⟨⟨g, cap, rfl, ht⟩, hb⟩; have HJ := Lib.hid (TW.from HJ.out ht); clear hb ht)
        | (go_at_call 13; (with_reducible refine (HA1.out _ HJ.out.sh).mono ?_); rintro e w4 ⟨rfl, hb⟩; have HJ := Lib.hid (HJ.out.later hb); clear hb)
        | (go_at_call 13; (with_reducible refine (HA2.out _ HJ.out.sh).mono ?_); rintro e w4 ⟨rfl, hb⟩; have HJ := Lib.hid (HJ.out.later hb); clear hb))
      go_loopw [14] (fun i wr => ∃ k : Nat, k ≤ 3 ∧ i = .int .i64 k ∧ Hid (TW w g c wr)) (fun i _ => 3 - (intOf i).toNat)
      case atStart => exact ⟨0, by omega, rfl, HJ⟩
      case round =>
        obtain ⟨k, hk, rfl, HW⟩ := hrel
        have hk' : k = 0 ∨ k = 1 ∨ k = 2 ∨ k = 3 := by omega
        have z0 := HW.out.c0
        have z1 := HW.out.c1
        have z2 := HW.out.c2
        clear HJ
        rcases hk' with rfl | rfl | rfl | rfl
        · cases hf : c.u with
          | true =>
            have HF := Lib.hid hf
            rw [hf] at z0
            clear hf
            go_wp2
            go_roundw
            case rel => exact ⟨1, by omega, rfl, HW⟩
            case measure => simp [intOf]
          | false =>
            have HK := Lib.hid (HB.out 0 (by omega) (by exact hf))
            rw [hf] at z0
            clear hf
            obtain ⟨r, hr⟩ : ∃ r, r = bitsI (mode % 2048) (0 : Int) := ⟨_, rfl⟩
            have HR := Lib.hid hr
            clear hr
            go_wp2_with (first
              | (go_at_call 14; (with_reducible refine (bits_is a 0 r _ HW.out.sh (HK.out.trans HR.out.symm)).mono ?_); rintro e w4 ⟨rfl, rfl⟩)
              | (go_at_call 15; (with_reducible refine (rbits_is (mode % 2048) 0 r _ HR.out.symm).mono ?_); rintro e w4 ⟨rfl, rfl⟩))
            go_roundw
            case rel => exact ⟨1, by omega, rfl, HW⟩
            case measure => simp [intOf]
        · cases hf : c.g with
          | true =>
            have HF := Lib.hid hf
            rw [hf] at z1
            clear hf
            go_wp2
            go_roundw
            case rel => exact ⟨2, by omega, rfl, HW⟩
            case measure => simp [intOf]
          | false =>
            have HK := Lib.hid (HB.out 1 (by omega) (by exact hf))
            rw [hf] at z1
            clear hf
            obtain ⟨r, hr⟩ : ∃ r, r = bitsI (mode % 2048) (1 : Int) := ⟨_, rfl⟩
            have HR := Lib.hid hr
            clear hr
            go_wp2_with (first
              | (go_at_call 14; (with_reducible refine (bits_is a 1 r _ HW.out.sh (HK.out.trans HR.out.symm)).mono ?_); rintro e w4 ⟨rfl, rfl⟩)
              | (go_at_call 15; (with_reducible refine (rbits_is (mode % 2048) 1 r _ HR.out.symm).mono ?_); rintro e w4 ⟨rfl, rfl⟩))
            go_roundw
            case rel => exact ⟨2, by omega, rfl, HW⟩
            case measure => simp [intOf]
        · cases hf : c.o with
          | true =>
            have HF := Lib.hid hf
            rw [hf] at z2
            clear hf
            go_wp2
            go_roundw
            case rel => exact ⟨3, by omega, rfl, HW⟩
            case measure => simp [intOf]
          | false =>
            have HK := Lib.hid (HB.out 2 (by omega) (by exact hf))
            rw [hf] at z2
            clear hf
            obtain ⟨r, hr⟩ : ∃ r, r = bitsI (mode % 2048) (2 : Int) := ⟨_, rfl⟩
            have HR := Lib.hid hr
            clear hr
            go_wp2_with (first
              | (go_at_call 14; (with_reducible refine (bits_is a 2 r _ HW.out.sh (HK.out.trans HR.out.symm)).mono ?_); rintro e w4 ⟨rfl, rfl⟩)
              | (go_at_call 15; (with_reducible refine (rbits_is (mode % 2048) 2 r _ HR.out.symm).mono ?_); rintro e w4 ⟨rfl, rfl⟩))
            go_roundw
            case rel => exact ⟨3, by omega, rfl, HW⟩
            case measure => simp [intOf]
        · go_wp2
          go_ret
          exact ⟨rfl, HW.out.bel⟩
    · obtain ⟨n, hn⟩ : ∃ n, l.length = n := ⟨_, rfl⟩
      have hn1 : ((n : Int) != 1) = true := by rw [← hn, bne_iff_ne]; omega
      have HP := Lib.hid hp
      have HN := Lib.hid hn
      clear hp hl hn
      have HJ := Lib.hid (JS0 hs)
      clear hs
      go_enter Tryd.func4, Tryd.ntmps4
      go_wp2_with (first
        | (go_at_call 10; (with_reducible refine (known_calls _ HJ.out.sh).mono ?_); rintro e w4 ⟨rfl, hb⟩; have HJ := Lib.hid (HJ.out.later hb); clear hb)
        | (go_at_call 12; (with_reducible refine (rcl_many s l n _ HL.out HP.out HN.out).mono ?_); rintro e w4 ⟨⟨a, cap, rfl⟩, hb⟩; have HJ := Lib.hid (HJ.out.later hb); clear hb))
      go_ret
      exact ⟨rfl, HJ.out.bel⟩

set_option maxHeartbeats 4000000 in
theorem twice_1 (mode : Int) (s : ByteArray) (w : World) (hs : Shifts w) (h0 : 0 ≤ mode) (h1 : mode ≤ 65535) (hx : s.size ≤ 9223372036854775807) (hx40 : 40 < s.size) :
    Calls Tryd.prog 4 #[.int .u16 mode, .string s] w fun e w' => e = .returned (.bool true) ∧ Below w.heap.size w w' := by
  have HM := Lib.hid (val_ofI (m := mode % 2048) (by omega) (by omega)).symm
  have HL := Lib.hid (show ByteArray.size (s.extract 0 40) ≤ 100 by first | omega | (rw [ByteArray.size_extract]; omega))
  cases hp : pz (s.extract 0 40) with
  | none =>
    have HP := Lib.hid hp
    clear hp
    have HJ := Lib.hid (JS0 hs)
    clear hs
    go_enter Tryd.func4, Tryd.ntmps4
    go_wp2_with (first
      | (go_at_call 10; (with_reducible refine (known_calls _ HJ.out.sh).mono ?_); rintro e w4 ⟨rfl, hb⟩; have HJ := Lib.hid (HJ.out.later hb); clear hb)
      | (go_at_call 12; (with_reducible refine (rcl_none (s.extract 0 40) _ HL.out HP.out).mono ?_); rintro e w4 ⟨⟨j, rfl, hj⟩, hb⟩; have HJ := Lib.hid (HJ.out.later hb); clear hb))
    go_ret
    exact ⟨rfl, HJ.out.bel⟩
  | some l =>
    by_cases hl : l.length = 1
    · obtain ⟨c, rfl⟩ := List.length_eq_one_iff.1 hl
      have HP := Lib.hid hp
      clear hp hl
      obtain ⟨a, ha⟩ : ∃ a, a = val (applyC (ofI (mode % 2048)) c) := ⟨_, rfl⟩
      obtain ⟨m, hm⟩ : ∃ m, m = mode % 2048 := ⟨_, rfl⟩
      have HA := Lib.hid ha
      have HM2 := Lib.hid hm
      have A1 := fun w hs => apply_ok (ofI (mode % 2048)) (s.extract 0 40) [c] (mode % 2048) w hs HL.out HP.out HM.out
      have A2 := fun w hs => apply_ok (applyC (ofI (mode % 2048)) c) (s.extract 0 40) [c] a w hs HL.out HP.out ha
      rw [show applyAll (ofI (mode % 2048)) [c] = applyC (ofI (mode % 2048)) c from rfl, ← ha] at A1
      rw [show applyAll (applyC (ofI (mode % 2048)) c) [c] = applyC (applyC (ofI (mode % 2048)) c) c from rfl, applyC_idem, ← ha] at A2
      have B := fun (k : Nat) (hk : k < 3) (hf : flagAt c k = false) => (bitsI_keeps (ofI (mode % 2048)) c k hk hf)
      rw [← ha, ← HM.out] at B
      have HB := Lib.hid B
      have HA1 := Lib.hid A1
      have HA2 := Lib.hid A2
      clear A1 A2 B ha hm HM2
      have HJ := Lib.hid (JS0 hs)
      clear hs
      go_enter Tryd.func4, Tryd.ntmps4
      go_wp2_with (first
        | (go_at_call 10; (with_reducible refine (known_calls _ HJ.out.sh).mono ?_); rintro e w4 ⟨rfl, hb⟩; have HJ := Lib.hid (HJ.out.later hb); clear hb)
        | (go_at_call 12; (with_reducible refine (rcl_one (s.extract 0 40) c _ HL.out HP.out HJ.out.sh).mono ?_); rintro e w4 ⟨⟨g, cap, rfl, ht⟩, hb⟩; have HJ := Lib.hid (TW.from HJ.out ht); clear hb ht)
        | (go_at_call 13; (with_reducible refine (HA1.out _ HJ.out.sh).mono ?_); rintro e w4 ⟨rfl, hb⟩; have HJ := Lib.hid (HJ.out.later hb); clear hb)
        | (go_at_call 13; (with_reducible refine (HA2.out _ HJ.out.sh).mono ?_); rintro e w4 ⟨rfl, hb⟩; have HJ := Lib.hid (HJ.out.later hb); clear hb))
      go_loopw [14] (fun i wr => ∃ k : Nat, k ≤ 3 ∧ i = .int .i64 k ∧ Hid (TW w g c wr)) (fun i _ => 3 - (intOf i).toNat)
      case atStart => exact ⟨0, by omega, rfl, HJ⟩
      case round =>
        obtain ⟨k, hk, rfl, HW⟩ := hrel
        have hk' : k = 0 ∨ k = 1 ∨ k = 2 ∨ k = 3 := by omega
        have z0 := HW.out.c0
        have z1 := HW.out.c1
        have z2 := HW.out.c2
        clear HJ
        rcases hk' with rfl | rfl | rfl | rfl
        · cases hf : c.u with
          | true =>
            have HF := Lib.hid hf
            rw [hf] at z0
            clear hf
            go_wp2
            go_roundw
            case rel => exact ⟨1, by omega, rfl, HW⟩
            case measure => simp [intOf]
          | false =>
            have HK := Lib.hid (HB.out 0 (by omega) (by exact hf))
            rw [hf] at z0
            clear hf
            obtain ⟨r, hr⟩ : ∃ r, r = bitsI (mode % 2048) (0 : Int) := ⟨_, rfl⟩
            have HR := Lib.hid hr
            clear hr
            go_wp2_with (first
              | (go_at_call 14; (with_reducible refine (bits_is a 0 r _ HW.out.sh (HK.out.trans HR.out.symm)).mono ?_); rintro e w4 ⟨rfl, rfl⟩)
              | (go_at_call 15; (with_reducible refine (rbits_is (mode % 2048) 0 r _ HR.out.symm).mono ?_); rintro e w4 ⟨rfl, rfl⟩))
            go_roundw
            case rel => exact ⟨1, by omega, rfl, HW⟩
            case measure => simp [intOf]
        · cases hf : c.g with
          | true =>
            have HF := Lib.hid hf
            rw [hf] at z1
            clear hf
            go_wp2
            go_roundw
            case rel => exact ⟨2, by omega, rfl, HW⟩
            case measure => simp [intOf]
          | false =>
            have HK := Lib.hid (HB.out 1 (by omega) (by exact hf))
            rw [hf] at z1
            clear hf
            obtain ⟨r, hr⟩ : ∃ r, r = bitsI (mode % 2048) (1 : Int) := ⟨_, rfl⟩
            have HR := Lib.hid hr
            clear hr
            go_wp2_with (first
              | (go_at_call 14; (with_reducible refine (bits_is a 1 r _ HW.out.sh (HK.out.trans HR.out.symm)).mono ?_); rintro e w4 ⟨rfl, rfl⟩)
              | (go_at_call 15; (with_reducible refine (rbits_is (mode % 2048) 1 r _ HR.out.symm).mono ?_); rintro e w4 ⟨rfl, rfl⟩))
            go_roundw
            case rel => exact ⟨2, by omega, rfl, HW⟩
            case measure => simp [intOf]
        · cases hf : c.o with
          | true =>
            have HF := Lib.hid hf
            rw [hf] at z2
            clear hf
            go_wp2
            go_roundw
            case rel => exact ⟨3, by omega, rfl, HW⟩
            case measure => simp [intOf]
          | false =>
            have HK := Lib.hid (HB.out 2 (by omega) (by exact hf))
            rw [hf] at z2
            clear hf
            obtain ⟨r, hr⟩ : ∃ r, r = bitsI (mode % 2048) (2 : Int) := ⟨_, rfl⟩
            have HR := Lib.hid hr
            clear hr
            go_wp2_with (first
              | (go_at_call 14; (with_reducible refine (bits_is a 2 r _ HW.out.sh (HK.out.trans HR.out.symm)).mono ?_); rintro e w4 ⟨rfl, rfl⟩)
              | (go_at_call 15; (with_reducible refine (rbits_is (mode % 2048) 2 r _ HR.out.symm).mono ?_); rintro e w4 ⟨rfl, rfl⟩))
            go_roundw
            case rel => exact ⟨3, by omega, rfl, HW⟩
            case measure => simp [intOf]
        · go_wp2
          go_ret
          exact ⟨rfl, HW.out.bel⟩
    · obtain ⟨n, hn⟩ : ∃ n, l.length = n := ⟨_, rfl⟩
      have hn1 : ((n : Int) != 1) = true := by rw [← hn, bne_iff_ne]; omega
      have HP := Lib.hid hp
      have HN := Lib.hid hn
      clear hp hl hn
      have HJ := Lib.hid (JS0 hs)
      clear hs
      go_enter Tryd.func4, Tryd.ntmps4
      go_wp2_with (first
        | (go_at_call 10; (with_reducible refine (known_calls _ HJ.out.sh).mono ?_); rintro e w4 ⟨rfl, hb⟩; have HJ := Lib.hid (HJ.out.later hb); clear hb)
        | (go_at_call 12; (with_reducible refine (rcl_many (s.extract 0 40) l n _ HL.out HP.out HN.out).mono ?_); rintro e w4 ⟨⟨a, cap, rfl⟩, hb⟩; have HJ := Lib.hid (HJ.out.later hb); clear hb))
      go_ret
      exact ⟨rfl, HJ.out.bel⟩

theorem twice_calls (mode : Int) (s : ByteArray) (w : World) (hs : Shifts w) (h0 : 0 ≤ mode) (h1 : mode ≤ 65535) (hx : s.size ≤ 9223372036854775807) :
    Calls Tryd.prog 4 #[.int .u16 mode, .string s] w fun e w' => e = .returned (.bool true) ∧ Below w.heap.size w w' := by
  rcases Nat.lt_or_ge 40 s.size with a | a
  · exact twice_1 mode s w hs h0 h1 hx a
  · exact twice_0 mode s w hs h0 h1 hx a

end Go.Proofs.YtkjmmpdmbdimoaaDoor
