/- Diff where it returns at once; Equal; known. -/
import Derived.Test.YtapkboadkbnjaaaGreatDoorQ4
import Derived.Deep.QuietTactic
import Derived.BigQuiet
namespace Go.Proofs.YtapkboadkbnjaaaGreatDoor
open Go.RowKit Go.Own

theorem diff_nil1 (q : Option Addr) (w : World) : Calls Tryz.prog 24 #[.pointer none, .pointer q] w fun e w' => e = .returned (.slice none 0 0) ∧ Below w.heap.size w w' := by
  go_enter_defers Tryz.func24, Tryz.ntmps24
  go_wp2
  go_quiet (fail)
  go_wp2
  exact ⟨_, results_tmp rfl _ _ _, rfl, qm_drewN _ _ _⟩
theorem diff_nil2 (k : Nat) (w : World) (h1 : Blk w k [.pointer none] 95) : Calls Tryz.prog 24 #[.pointer (some ⟨k, 0, none⟩), .pointer none] w fun e w' => e = .returned (.slice none 0 0) ∧ Below w.heap.size w w' := by
  clear h1
  go_enter_defers Tryz.func24, Tryz.ntmps24
  go_wp2
  go_quiet (fail)
  go_wp2
  exact ⟨_, results_tmp rfl _ _ _, rfl, qm_drewN _ _ _⟩
theorem diff_leaf (k l : Nat) (w : World) (h1 : Blk w k [.pointer none] 95) (h2 : Blk w l [.pointer none] 95) : Calls Tryz.prog 24 #[.pointer (some ⟨k, 0, none⟩), .pointer (some ⟨l, 0, none⟩)] w fun e w' => e = .returned (.slice none 0 0) ∧ Below w.heap.size w w' := by
  have p := h1.cell 0 rfl
  have q := h2.cell 0 rfl
  clear h1 h2
  go_enter_defers Tryz.func24, Tryz.ntmps24
  go_wp2
  go_quiet (fail)
  go_wp2
  exact ⟨_, results_tmp rfl _ _ _, rfl, qm_drewN _ _ _⟩

theorem lenS (p : Option Addr) (t : T) (n : Int) (hn : t.many = n) (w : World) (hs : IsS w.heap.size w p (some t)) : Calls Tryz.prog 34 #[.pointer p] w fun e w' => e = .returned (.int .i64 n) ∧ w = w' := by
  subst hn
  exact len_calls p (some t) _ w hs

theorem equal_leaf (k l : Nat) (w : World) (h1 : Blk w k [.pointer none] 95) (h2 : Blk w l [.pointer none] 95) : Calls Tryz.prog 27 #[.pointer (some ⟨k, 0, none⟩), .pointer (some ⟨l, 0, none⟩)] w fun e w' => e = .returned (.bool true) ∧ Below w.heap.size w w' := by
  have H1 : Hid (IsS w.heap.size w (some ⟨k, 0, none⟩) (some .leaf)) := ⟨k, none, rfl, h1.lt, h1, rfl⟩
  have H2 : Hid (IsS w.heap.size w (some ⟨l, 0, none⟩) (some .leaf)) := ⟨l, none, rfl, h2.lt, h2, rfl⟩
  have HH := Lib.hid (And.intro h1 h2)
  clear h1 h2
  go_enter Tryz.func27, Tryz.ntmps27
  go_wp2_with (first
    | (go_at_call 34; (with_reducible refine (lenS (some ⟨k, 0, none⟩) .leaf 0 rfl w H1.out).mono ?_); rintro e w1 ⟨rfl, rfl⟩)
    | (go_at_call 34; (with_reducible refine (lenS (some ⟨l, 0, none⟩) .leaf 0 rfl w H2.out).mono ?_); rintro e w1 ⟨rfl, rfl⟩)
    | (go_at_call 24; (with_reducible refine (diff_leaf k l w HH.out.1 HH.out.2).mono ?_); rintro e w1 ⟨rfl, hb⟩))
  go_ret
  exact ⟨rfl, hb⟩
theorem equal_no (p : Option Addr) (k l : Nat) (w : World) (hp : p = some ⟨k, 0, none⟩) (h1 : IsS w.heap.size w p (some oneT)) (h2 : Blk w l [.pointer none] 95) : Calls Tryz.prog 27 #[.pointer p, .pointer (some ⟨l, 0, none⟩)] w fun e w' => e = .returned (.bool false) ∧ w = w' := by
  subst hp
  have H1 := Lib.hid h1
  have H2 : Hid (IsS w.heap.size w (some ⟨l, 0, none⟩) (some .leaf)) := ⟨l, none, rfl, h2.lt, h2, rfl⟩
  clear h1 h2
  go_enter Tryz.func27, Tryz.ntmps27
  go_wp2_with (first
    | (go_at_call 34; (with_reducible refine (lenS (some ⟨k, 0, none⟩) oneT 1 rfl w H1.out).mono ?_); rintro e w1 ⟨rfl, rfl⟩)
    | (go_at_call 34; (with_reducible refine (lenS (some ⟨l, 0, none⟩) .leaf 0 rfl w H2.out).mono ?_); rintro e w1 ⟨rfl, rfl⟩))
  go_ret
  exact ⟨rfl, rfl⟩

/-- Between the calls of known: the empty state, the state with the clock, the state without it. -/
structure KN (w0 : World) (k a b : Nat) (w : World) : Prop where
  s0 : Blk w k [.pointer none] 95
  s1 : IsS w.heap.size w (some ⟨a, 0, none⟩) (some oneT)
  s2 : Blk w b [.pointer none] 95
  bel : Below w0.heap.size w0 w
theorem KN.later {w0 w w' : World} {k a b : Nat} (h : KN w0 k a b w) (hb : Below w.heap.size w w') : KN w0 k a b w' :=
  ⟨h.s0.below hb h.s0.lt, h.s1.later hb, h.s2.below hb h.s2.lt, bel_then h.bel h.bel.size hb⟩
theorem clock_callsV (w : World) : Calls Tryz.prog 38 #[] w fun e w' => e = .returned clockV ∧ Below w.heap.size w w' := clock_calls w
structure K0 (w0 : World) (k : Nat) (w : World) : Prop where
  s0 : Blk w k [.pointer none] 95
  bel : Below w0.heap.size w0 w
theorem K0.later {w0 w w' : World} {k : Nat} (h : K0 w0 k w) (hb : Below w.heap.size w w') : K0 w0 k w' := ⟨h.s0.below hb h.s0.lt, bel_then h.bel h.bel.size hb⟩
theorem K0.isS {w0 w : World} {k : Nat} (h : K0 w0 k w) : IsS w.heap.size w (some ⟨k, 0, none⟩) (some .leaf) := ⟨k, none, rfl, h.s0.lt, h.s0, rfl⟩
structure K1 (w0 : World) (k a : Nat) (w : World) : Prop where
  s0 : Blk w k [.pointer none] 95
  s1 : IsS w.heap.size w (some ⟨a, 0, none⟩) (some oneT)
  bel : Below w0.heap.size w0 w
theorem K1.later {w0 w w' : World} {k a : Nat} (h : K1 w0 k a w) (hb : Below w.heap.size w w') : K1 w0 k a w' := ⟨h.s0.below hb h.s0.lt, h.s1.later hb, bel_then h.bel h.bel.size hb⟩
theorem k0_new (w0 w : World) (k : Nat) (h : IsS w.heap.size w (some ⟨k, 0, none⟩) (some .leaf)) (hb : Below w0.heap.size w0 w) : K0 w0 k w := by
  obtain ⟨k', r, hp, _, hblk, rfl⟩ := h
  obtain rfl : k = k' := by simpa using hp
  exact ⟨hblk, hb⟩
theorem kn_new {w0 w w' : World} {k a b : Nat} (h : K1 w0 k a w) (hs : IsS w'.heap.size w' (some ⟨b, 0, none⟩) (some .leaf)) (hb : Below w.heap.size w w') : KN w0 k a b w' := by
  have h' := h.later hb
  obtain ⟨b', r, hp, _, hblk, rfl⟩ := hs
  obtain rfl : b = b' := by simpa using hp
  exact ⟨h'.s0, h'.s1, hblk, h'.bel⟩
theorem KN.is2 {w0 w : World} {k a b : Nat} (h : KN w0 k a b w) : IsS w.heap.size w (some ⟨b, 0, none⟩) (some .leaf) := ⟨b, none, rfl, h.s2.lt, h.s2, rfl⟩

set_option maxHeartbeats 4000000 in
theorem known_calls (w : World) : Calls Tryz.prog 13 #[] w fun e w' => e = .returned (.bool true) ∧ Below w.heap.size w w' := by
  go_enter Tryz.func13, Tryz.ntmps13
  go_wp2_with (first
    | (go_at_call 20; (with_reducible refine (new_calls _).mono ?_); rintro e w1 ⟨rfl, hs, hb⟩; have HK := Lib.hid (k0_new w w1 _ hs hb); clear hs hb)
    | (go_at_call 38; (with_reducible refine (clock_callsV _).mono ?_); rintro e w2 ⟨rfl, hb⟩; have HK := Lib.hid (HK.out.later hb); clear hb)
    | (go_at_call 32; (refine (with_new _ _ HK.out.isS).mono ?_); rintro e w3 ⟨a, rfl, hs, hb⟩; have HK := Lib.hid (K1.mk (HK.out.later hb).s0 hs (HK.out.later hb).bel); clear hs hb)
    | (go_at_call 33; (refine (without_state _ _ HK.out.s1).mono ?_); rintro e w4 ⟨b, rfl, hs, hb⟩; have HK := Lib.hid (kn_new HK.out hs hb); clear hs hb)
    | (go_at_call 15; (with_reducible refine (get_one _ _ HK.out.s1).mono ?_); rintro e w5 ⟨rfl, hb⟩; have HK := Lib.hid (HK.out.later hb); clear hb)
    | (go_at_call 15; (with_reducible refine (get_leafV _ _ HK.out.is2).mono ?_); rintro e w5 ⟨rfl, hb⟩; have HK := Lib.hid (HK.out.later hb); clear hb)
    | (go_at_call 27; (with_reducible refine (equal_leaf b w.heap.size _ HK.out.s2 HK.out.s0).mono ?_); rintro e w6 ⟨rfl, hb⟩; have HK := Lib.hid (HK.out.later hb); clear hb)
    | (go_at_call 27; (with_reducible refine (equal_no _ a w.heap.size _ rfl HK.out.s1 HK.out.s0).mono ?_); rintro e w7 ⟨rfl, rfl⟩))
  go_ret
  exact ⟨rfl, HK.out.bel⟩
end Go.Proofs.YtapkboadkbnjaaaGreatDoor
