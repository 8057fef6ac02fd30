/- The walk of AccessRuns. -/
import Derived.Test.YtkjmmpdmbdimoaaDoorA11
import Derived.Test.YtkjmmpdmbdimoaaDoorB1
namespace Go.Proofs.YtkjmmpdmbdimoaaDoor
open Go.RowKit Go.Own

theorem who_k (u : Int) (a : Option Addr) (n c : Nat) (gs : List Int) (w : World) (k : Nat) (hk : k = min n 8) (hx : Ints w a n gs) (hnc : n ≤ c) (hc : c ≤ 9223372036854775807) :
    Calls Tryd.prog 9 #[.agg #[.int .i64 u, .slice a n c]] w (WhoPost u k (gs.take 8) w) := by
  subst hk
  exact who_calls u a n c gs w hx hnc hc
theorem run_is (u : Int) (a : Option Addr) (n c : Nat) (zs : List Int) (owner m r : Int) (w : World) (hx : Ints w a n zs) (hn : n ≤ 8) (hr : runI u owner m = r) :
    Calls Tryd.prog 19 #[.agg #[.int .i64 u, .slice a n c], .int .i64 owner, .int .i64 m] w (RunPost r n zs w) := by
  subst hr
  exact run_calls u a n c zs owner m w hx hn

/-- Behind Who: the variables id and who. -/
structure Q1 (w0 : World) (Y : Nat) (u : Int) (A1 A2 : Option Addr) (k c1 c2 : Nat) (zs : List Int) (w : World) : Prop where
  b0 : Blk w w0.heap.size [.int .i64 u, .slice A2 k c2] 24
  b3 : Blk w Y [.int .i64 u, .slice A1 k c1] 28
  i1 : Ints w A1 k zs
  i2 : Ints w A2 k zs
  sh : Shifts w
  bel : Below w0.heap.size w0 w
theorem one_blk1 {w w4 : World} {c1 : List Value} {t1 : TypeId} (hb : Below (w.alloc (.cells c1.toArray t1)).heap.size (w.alloc (.cells c1.toArray t1)) w4) :
    Blk w4 w.heap.size c1 t1 ∧ w.heap.size < w4.heap.size ∧ Below w.heap.size w w4 := by
  have hs := hb.size
  simp only [World.size_alloc] at hs
  exact ⟨(Blk.new w c1 t1).below hb (by simp only [World.size_alloc]; omega), by omega, bel_then (bel1 _ _) (by simp only [World.size_alloc]; omega) hb⟩
theorem q1_new {w0 w3 w4 : World} {u : Int} {A1 A2 : Option Addr} {k c1 c2 : Nat} {zs : List Int} {v : Value}
    (b0 : Blk w4 w0.heap.size [.int .i64 u, v] 24)
    (i1 : Ints w4 A1 k zs) (i2 : Ints w4 A2 k zs) (n1 : NewAt w3 A1 k) (n2 : NewAt w3 A2 k) (h3 : w0.heap.size < w3.heap.size) (hb : Below w0.heap.size w0 w4) (hs : Shifts w0) :
    Q1 w0 w4.heap.size u A1 A2 k c1 c2 zs (((w4.setCell ⟨w0.heap.size, 0, none⟩ (.int .i64 u)).setCell ⟨w0.heap.size, 1, none⟩ (.slice A2 k c2)).alloc (.cells #[.int .i64 u, .slice A1 k c1] 28)) := by
  have hb' := ((hb.setCell (p := ⟨w0.heap.size, 0, none⟩) (Nat.le_refl _) (.int .i64 u)).setCell (p := ⟨w0.heap.size, 1, none⟩) (Nat.le_refl _) (.slice A2 k c2))
  have hb'' := bel_then hb' hb'.size (bel1 _ (.cells #[.int .i64 u, .slice A1 k c1] 28))
  refine ⟨((b0.set 0 _).set 1 _).alloc _, ?_, ((i1.setCell n1 h3 _).setCell n1 h3 _).later (bel1 _ _), ((i2.setCell n2 h3 _).setCell n2 h3 _).later (bel1 _ _), hs.later hb'', hb''⟩
  have := Blk.new ((w4.setCell ⟨w0.heap.size, 0, none⟩ (.int .i64 u)).setCell ⟨w0.heap.size, 1, none⟩ (.slice A2 k c2)) [.int .i64 u, .slice A1 k c1] 28
  rwa [World.size_setCell, World.size_setCell] at this

/-- Behind Run: the variables id and x. -/
structure QR (w0 : World) (Z : Nat) (u r : Int) (A2 A3 : Option Addr) (k c2 c3 : Nat) (zs : List Int) (w : World) : Prop where
  b0 : Blk w w0.heap.size [.int .i64 u, .slice A2 k c2] 24
  b8 : Blk w Z [.int .i64 r, .slice A3 k c3] 28
  i2 : Ints w A2 k zs
  i3 : Ints w A3 k zs
  sh : Shifts w
  bel : Below w0.heap.size w0 w
theorem QR.later {w0 w w' : World} {Z : Nat} {u r : Int} {A2 A3 : Option Addr} {k c2 c3 : Nat} {zs : List Int} (h : QR w0 Z u r A2 A3 k c2 c3 zs w) (hb : Below w.heap.size w w') : QR w0 Z u r A2 A3 k c2 c3 zs w' :=
  ⟨h.b0.below hb h.b0.lt, h.b8.below hb h.b8.lt, h.i2.later hb, h.i3.later hb, h.sh.later hb, bel_then h.bel h.bel.size hb⟩
theorem qr_new {w0 w w' : World} {Y : Nat} {u : Int} {A1 A2 : Option Addr} {k c1 c2 : Nat} {zs : List Int} (h : Q1 w0 Y u A1 A2 k c1 c2 zs w) {A3 : Option Addr} (r : Int) (c3 : Nat) (hb : Below w.heap.size w w') (i3 : Ints w' A3 k zs) :
    QR w0 w'.heap.size u r A2 A3 k c2 c3 zs (w'.alloc (.cells #[.int .i64 r, .slice A3 k c3] 28)) :=
  ⟨(h.b0.below hb h.b0.lt).alloc _, Blk.new w' [.int .i64 r, .slice A3 k c3] 28, (h.i2.later hb).later (bel1 _ _), i3.later (bel1 _ _), (h.sh.later hb).later (bel1 _ _),
    bel_then (bel_then h.bel h.bel.size hb) (Nat.le_trans h.bel.size hb.size) (bel1 _ _)⟩

theorem suid_all : ∀ m : Fin 2048, (((m : Nat) : Int) / 512 % 2 == 1) = (bits BinOp.and IntKind.i64 (m : Nat) 512 != 0) := by decide +kernel
theorem suid_eq {m : Int} (h0 : 0 ≤ m) (h1 : m ≤ 2047) : (m / 512 % 2 == 1) = (bits BinOp.and IntKind.i64 m 512 != 0) := by
  obtain ⟨j, rfl⟩ := Int.eq_ofNat_of_zero_le h0
  exact suid_all ⟨j, by omega⟩
theorem runI_out {u owner m : Int} (h : ¬ (0 ≤ m ∧ m ≤ 2047)) : runI u owner m = u := if_neg (fun e => h (validB_iff.1 e.1))
theorem runI_no {u owner m : Int} (h0 : 0 ≤ m) (h1 : m ≤ 2047) (h : (m / 512 % 2 == 1) = false) : runI u owner m = u := if_neg (fun e => by rw [suid_eq h0 h1] at h; rw [h] at e; exact Bool.false_ne_true e.2)
theorem runI_yes {u owner m : Int} (h0 : 0 ≤ m) (h1 : m ≤ 2047) (h : (m / 512 % 2 == 1) = true) : runI u owner m = owner := if_pos ⟨validB_iff.2 ⟨h0, h1⟩, (suid_eq h0 h1).symm.trans h⟩

set_option maxHeartbeats 2000000 in
theorem runs_low (u : Int) (a : Option Addr) (n c : Nat) (gs : List Int) (owner mode : Int) (w : World) (hx : Ints w a n gs) (hnc : n ≤ c) (hc : c ≤ 9223372036854775807) (hs : Shifts w) (h : mode < 0) :
    Calls Tryd.prog 7 #[.agg #[.int .i64 u, .slice a n c], .int .i64 owner, .int .i64 mode] w fun e w' => e = .returned (.bool true) ∧ Below w.heap.size w w' := by
  obtain ⟨k, hk⟩ : ∃ k, k = min n 8 := ⟨_, rfl⟩
  have hk8 : k ≤ 8 := by omega
  have HK := Lib.hid hk
  clear hk
  have HR := Lib.hid (show runI u owner mode = u from runI_out (by omega))
  go_enter Tryd.func7, Tryd.ntmps7
  go_upto_region 3 with (first
      | (go_at_call 9; (refine (who_k _ a n c gs _ k HK.out (hx.later (bel1 _ _)) hnc hc).mono ?_); rintro e w4 ⟨A1, c1, A2, c2, rfl, hI1, hI2, hb4, n1, n2⟩; obtain ⟨B0, hs4, hb4'⟩ := one_blk1 hb4; have q0 := B0.cell 0 rfl; have q1 := B0.cell 1 rfl; have f0 := B0.free 0; have f1 := B0.free 1; have HP := Lib.hid (q1_new (c1 := c1) (c2 := c2) B0 hI1 hI2 n1 n2 (by simp only [World.size_alloc]; omega) hb4' hs); have z1 : w.heap.size < w4.heap.size := (by omega); clear B0 hb4 hb4' hI1 hI2 n1 n2)
      | (go_at_call 19; (with_reducible refine (run_is _ A1 k c1 (gs.take 8) _ _ _ _ HP.out.i1 hk8 HR.out).mono ?_); rintro e w6 ⟨A3, c3, rfl, hI3, -, hb6⟩; have HQ := Lib.hid (qr_new HP.out u c3 hb6 hI3); clear hI3 hb6))
  obtain ⟨w7, hw7⟩ : ∃ w7, w7 = w6.alloc (.cells #[.int .i64 u, .slice A3 k c3] 28) := ⟨_, rfl⟩
  rw [← hw7] at HQ ⊢
  clear hw7 HP q0 q1 f0 f1 z1 hs4
  have p0 := HQ.out.b0.cell 0 rfl
  have p1 := HQ.out.b0.cell 1 rfl
  have p2 := HQ.out.b8.cell 0 rfl
  have p3 := HQ.out.b8.cell 1 rfl
  go_wp2_with (go_at_call 10; (with_reducible refine (known_calls _ HQ.out.sh).mono ?_); rintro e w8 ⟨rfl, hb8⟩; have HQ := Lib.hid (HQ.out.later hb8); have p0 := HQ.out.b0.cell 0 rfl; have p1 := HQ.out.b0.cell 1 rfl; have p2 := HQ.out.b8.cell 0 rfl; have p3 := HQ.out.b8.cell 1 rfl; clear hb8)
  have HI2 := Lib.hid HQ.out.i2
  go_loopw [10] (fun i wr => ∃ j : Nat, j ≤ k ∧ i = .int .i64 j ∧ Hid (QR w w6.heap.size u u A2 A3 k c2 c3 (List.take 8 gs) wr)) (fun i _ => k - (intOf i).toNat)
  case atStart => exact ⟨0, Nat.zero_le _, rfl, HQ⟩
  case round =>
    obtain ⟨j, hj, rfl, HW⟩ := hrel
    clear p0 p1 p2 p3 HQ
    have p1 := HW.out.b0.cell 1 rfl
    have p3 := HW.out.b8.cell 1 rfl
    have p2 := HW.out.b8.cell 0 rfl
    by_cases hlt : j < k
    · obtain ⟨b2, o2, h2, e2⟩ := HW.out.i2.2.2 j hlt
      obtain ⟨b3, o3, h3, e3⟩ := HW.out.i3.2.2 j hlt
      subst h2 h3
      go_wp2
      go_quiet (fail)
      go_wp2
      go_roundw
      case rel => exact ⟨j + 1, by omega, by go_num, HW.out.later ⟨rfl, rfl, rfl, Nat.le_refl _, fun _ _ => rfl⟩⟩
      case measure => simp [intOf]; omega
    · go_wp2
      go_ret
      exact ⟨rfl, HW.out.bel⟩

set_option maxHeartbeats 2000000 in
theorem runs_high (u : Int) (a : Option Addr) (n c : Nat) (gs : List Int) (owner mode : Int) (w : World) (hx : Ints w a n gs) (hnc : n ≤ c) (hc : c ≤ 9223372036854775807) (hs : Shifts w) (h0 : 0 ≤ mode) (h : 2047 < mode) :
    Calls Tryd.prog 7 #[.agg #[.int .i64 u, .slice a n c], .int .i64 owner, .int .i64 mode] w fun e w' => e = .returned (.bool true) ∧ Below w.heap.size w w' := by
  obtain ⟨k, hk⟩ : ∃ k, k = min n 8 := ⟨_, rfl⟩
  have hk8 : k ≤ 8 := by omega
  have HK := Lib.hid hk
  clear hk
  have HR := Lib.hid (show runI u owner mode = u from runI_out (by omega))
  go_enter Tryd.func7, Tryd.ntmps7
  go_upto_region 3 with (first
      | (go_at_call 9; (refine (who_k _ a n c gs _ k HK.out (hx.later (bel1 _ _)) hnc hc).mono ?_); rintro e w4 ⟨A1, c1, A2, c2, rfl, hI1, hI2, hb4, n1, n2⟩; obtain ⟨B0, hs4, hb4'⟩ := one_blk1 hb4; have q0 := B0.cell 0 rfl; have q1 := B0.cell 1 rfl; have f0 := B0.free 0; have f1 := B0.free 1; have HP := Lib.hid (q1_new (c1 := c1) (c2 := c2) B0 hI1 hI2 n1 n2 (by simp only [World.size_alloc]; omega) hb4' hs); have z1 : w.heap.size < w4.heap.size := (by omega); clear B0 hb4 hb4' hI1 hI2 n1 n2)
      | (go_at_call 19; (with_reducible refine (run_is _ A1 k c1 (gs.take 8) _ _ _ _ HP.out.i1 hk8 HR.out).mono ?_); rintro e w6 ⟨A3, c3, rfl, hI3, -, hb6⟩; have HQ := Lib.hid (qr_new HP.out u c3 hb6 hI3); clear hI3 hb6))
  obtain ⟨w7, hw7⟩ : ∃ w7, w7 = w6.alloc (.cells #[.int .i64 u, .slice A3 k c3] 28) := ⟨_, rfl⟩
  rw [← hw7] at HQ ⊢
  clear hw7 HP q0 q1 f0 f1 z1 hs4
  have p0 := HQ.out.b0.cell 0 rfl
  have p1 := HQ.out.b0.cell 1 rfl
  have p2 := HQ.out.b8.cell 0 rfl
  have p3 := HQ.out.b8.cell 1 rfl
  go_wp2_with (go_at_call 10; (with_reducible refine (known_calls _ HQ.out.sh).mono ?_); rintro e w8 ⟨rfl, hb8⟩; have HQ := Lib.hid (HQ.out.later hb8); have p0 := HQ.out.b0.cell 0 rfl; have p1 := HQ.out.b0.cell 1 rfl; have p2 := HQ.out.b8.cell 0 rfl; have p3 := HQ.out.b8.cell 1 rfl; clear hb8)
  have HI2 := Lib.hid HQ.out.i2
  go_loopw [10] (fun i wr => ∃ j : Nat, j ≤ k ∧ i = .int .i64 j ∧ Hid (QR w w6.heap.size u u A2 A3 k c2 c3 (List.take 8 gs) wr)) (fun i _ => k - (intOf i).toNat)
  case atStart => exact ⟨0, Nat.zero_le _, rfl, HQ⟩
  case round =>
    obtain ⟨j, hj, rfl, HW⟩ := hrel
    clear p0 p1 p2 p3 HQ
    have p1 := HW.out.b0.cell 1 rfl
    have p3 := HW.out.b8.cell 1 rfl
    have p2 := HW.out.b8.cell 0 rfl
    by_cases hlt : j < k
    · obtain ⟨b2, o2, h2, e2⟩ := HW.out.i2.2.2 j hlt
      obtain ⟨b3, o3, h3, e3⟩ := HW.out.i3.2.2 j hlt
      subst h2 h3
      go_wp2
      go_quiet (fail)
      go_wp2
      go_roundw
      case rel => exact ⟨j + 1, by omega, by go_num, HW.out.later ⟨rfl, rfl, rfl, Nat.le_refl _, fun _ _ => rfl⟩⟩
      case measure => simp [intOf]; omega
    · go_wp2
      go_ret
      exact ⟨rfl, HW.out.bel⟩

set_option maxHeartbeats 2000000 in
theorem runs_no (u : Int) (a : Option Addr) (n c : Nat) (gs : List Int) (owner mode : Int) (w : World) (hx : Ints w a n gs) (hnc : n ≤ c) (hc : c ≤ 9223372036854775807) (hs : Shifts w) (h0 : 0 ≤ mode) (h1 : mode ≤ 2047) (h : (mode / 512 % 2 == 1) = false) :
    Calls Tryd.prog 7 #[.agg #[.int .i64 u, .slice a n c], .int .i64 owner, .int .i64 mode] w fun e w' => e = .returned (.bool true) ∧ Below w.heap.size w w' := by
  obtain ⟨k, hk⟩ : ∃ k, k = min n 8 := ⟨_, rfl⟩
  have hk8 : k ≤ 8 := by omega
  have HK := Lib.hid hk
  clear hk
  have HR := Lib.hid (show runI u owner mode = u from runI_no h0 h1 h)
  go_enter Tryd.func7, Tryd.ntmps7
  go_upto_region 3 with (first
      | (go_at_call 9; (refine (who_k _ a n c gs _ k HK.out (hx.later (bel1 _ _)) hnc hc).mono ?_); rintro e w4 ⟨A1, c1, A2, c2, rfl, hI1, hI2, hb4, n1, n2⟩; obtain ⟨B0, hs4, hb4'⟩ := one_blk1 hb4; have q0 := B0.cell 0 rfl; have q1 := B0.cell 1 rfl; have f0 := B0.free 0; have f1 := B0.free 1; have HP := Lib.hid (q1_new (c1 := c1) (c2 := c2) B0 hI1 hI2 n1 n2 (by simp only [World.size_alloc]; omega) hb4' hs); have z1 : w.heap.size < w4.heap.size := (by omega); clear B0 hb4 hb4' hI1 hI2 n1 n2)
      | (go_at_call 19; (with_reducible refine (run_is _ A1 k c1 (gs.take 8) _ _ _ _ HP.out.i1 hk8 HR.out).mono ?_); rintro e w6 ⟨A3, c3, rfl, hI3, -, hb6⟩; have HQ := Lib.hid (qr_new HP.out u c3 hb6 hI3); clear hI3 hb6))
  obtain ⟨w7, hw7⟩ : ∃ w7, w7 = w6.alloc (.cells #[.int .i64 u, .slice A3 k c3] 28) := ⟨_, rfl⟩
  rw [← hw7] at HQ ⊢
  clear hw7 HP q0 q1 f0 f1 z1 hs4
  have p0 := HQ.out.b0.cell 0 rfl
  have p1 := HQ.out.b0.cell 1 rfl
  have p2 := HQ.out.b8.cell 0 rfl
  have p3 := HQ.out.b8.cell 1 rfl
  go_wp2_with (go_at_call 10; (with_reducible refine (known_calls _ HQ.out.sh).mono ?_); rintro e w8 ⟨rfl, hb8⟩; have HQ := Lib.hid (HQ.out.later hb8); have p0 := HQ.out.b0.cell 0 rfl; have p1 := HQ.out.b0.cell 1 rfl; have p2 := HQ.out.b8.cell 0 rfl; have p3 := HQ.out.b8.cell 1 rfl; clear hb8)
  have HI2 := Lib.hid HQ.out.i2
  go_loopw [10] (fun i wr => ∃ j : Nat, j ≤ k ∧ i = .int .i64 j ∧ Hid (QR w w6.heap.size u u A2 A3 k c2 c3 (List.take 8 gs) wr)) (fun i _ => k - (intOf i).toNat)
  case atStart => exact ⟨0, Nat.zero_le _, rfl, HQ⟩
  case round =>
    obtain ⟨j, hj, rfl, HW⟩ := hrel
    clear p0 p1 p2 p3 HQ
    have p1 := HW.out.b0.cell 1 rfl
    have p3 := HW.out.b8.cell 1 rfl
    have p2 := HW.out.b8.cell 0 rfl
    by_cases hlt : j < k
    · obtain ⟨b2, o2, h2, e2⟩ := HW.out.i2.2.2 j hlt
      obtain ⟨b3, o3, h3, e3⟩ := HW.out.i3.2.2 j hlt
      subst h2 h3
      go_wp2
      go_quiet (fail)
      go_wp2
      go_roundw
      case rel => exact ⟨j + 1, by omega, by go_num, HW.out.later ⟨rfl, rfl, rfl, Nat.le_refl _, fun _ _ => rfl⟩⟩
      case measure => simp [intOf]; omega
    · go_wp2
      go_ret
      exact ⟨rfl, HW.out.bel⟩

set_option maxHeartbeats 2000000 in
theorem runs_yes (u : Int) (a : Option Addr) (n c : Nat) (gs : List Int) (owner mode : Int) (w : World) (hx : Ints w a n gs) (hnc : n ≤ c) (hc : c ≤ 9223372036854775807) (hs : Shifts w) (h0 : 0 ≤ mode) (h1 : mode ≤ 2047) (h : (mode / 512 % 2 == 1) = true) :
    Calls Tryd.prog 7 #[.agg #[.int .i64 u, .slice a n c], .int .i64 owner, .int .i64 mode] w fun e w' => e = .returned (.bool true) ∧ Below w.heap.size w w' := by
  obtain ⟨k, hk⟩ : ∃ k, k = min n 8 := ⟨_, rfl⟩
  have hk8 : k ≤ 8 := by omega
  have HK := Lib.hid hk
  clear hk
  have HR := Lib.hid (show runI u owner mode = owner from runI_yes h0 h1 h)
  go_enter Tryd.func7, Tryd.ntmps7
  go_upto_region 3 with (first
      | (go_at_call 9; (refine (who_k _ a n c gs _ k HK.out (hx.later (bel1 _ _)) hnc hc).mono ?_); rintro e w4 ⟨A1, c1, A2, c2, rfl, hI1, hI2, hb4, n1, n2⟩; obtain ⟨B0, hs4, hb4'⟩ := one_blk1 hb4; have q0 := B0.cell 0 rfl; have q1 := B0.cell 1 rfl; have f0 := B0.free 0; have f1 := B0.free 1; have HP := Lib.hid (q1_new (c1 := c1) (c2 := c2) B0 hI1 hI2 n1 n2 (by simp only [World.size_alloc]; omega) hb4' hs); have z1 : w.heap.size < w4.heap.size := (by omega); clear B0 hb4 hb4' hI1 hI2 n1 n2)
      | (go_at_call 19; (with_reducible refine (run_is _ A1 k c1 (gs.take 8) _ _ _ _ HP.out.i1 hk8 HR.out).mono ?_); rintro e w6 ⟨A3, c3, rfl, hI3, -, hb6⟩; have HQ := Lib.hid (qr_new HP.out owner c3 hb6 hI3); clear hI3 hb6))
  obtain ⟨w7, hw7⟩ : ∃ w7, w7 = w6.alloc (.cells #[.int .i64 owner, .slice A3 k c3] 28) := ⟨_, rfl⟩
  rw [← hw7] at HQ ⊢
  clear hw7 HP q0 q1 f0 f1 z1 hs4
  have p0 := HQ.out.b0.cell 0 rfl
  have p1 := HQ.out.b0.cell 1 rfl
  have p2 := HQ.out.b8.cell 0 rfl
  have p3 := HQ.out.b8.cell 1 rfl
  go_wp2_with (go_at_call 10; (with_reducible refine (known_calls _ HQ.out.sh).mono ?_); rintro e w8 ⟨rfl, hb8⟩; have HQ := Lib.hid (HQ.out.later hb8); have p0 := HQ.out.b0.cell 0 rfl; have p1 := HQ.out.b0.cell 1 rfl; have p2 := HQ.out.b8.cell 0 rfl; have p3 := HQ.out.b8.cell 1 rfl; clear hb8)
  have HI2 := Lib.hid HQ.out.i2
  go_loopw [10] (fun i wr => ∃ j : Nat, j ≤ k ∧ i = .int .i64 j ∧ Hid (QR w w6.heap.size u owner A2 A3 k c2 c3 (List.take 8 gs) wr)) (fun i _ => k - (intOf i).toNat)
  case atStart => exact ⟨0, Nat.zero_le _, rfl, HQ⟩
  case round =>
    obtain ⟨j, hj, rfl, HW⟩ := hrel
    clear p0 p1 p2 p3 HQ
    have p1 := HW.out.b0.cell 1 rfl
    have p3 := HW.out.b8.cell 1 rfl
    have p2 := HW.out.b8.cell 0 rfl
    by_cases hlt : j < k
    · obtain ⟨b2, o2, h2, e2⟩ := HW.out.i2.2.2 j hlt
      obtain ⟨b3, o3, h3, e3⟩ := HW.out.i3.2.2 j hlt
      subst h2 h3
      go_wp2
      go_quiet (fail)
      go_wp2
      go_roundw
      case rel => exact ⟨j + 1, by omega, by go_num, HW.out.later ⟨rfl, rfl, rfl, Nat.le_refl _, fun _ _ => rfl⟩⟩
      case measure => simp [intOf]; omega
    · go_wp2
      go_ret
      exact ⟨rfl, HW.out.bel⟩

theorem runs_calls (u : Int) (a : Option Addr) (n c : Nat) (gs : List Int) (owner mode : Int) (w : World) (hx : Ints w a n gs) (hnc : n ≤ c) (hc : c ≤ 9223372036854775807) (hs : Shifts w) :
    Calls Tryd.prog 7 #[.agg #[.int .i64 u, .slice a n c], .int .i64 owner, .int .i64 mode] w fun e w' => e = .returned (.bool true) ∧ Below w.heap.size w w' := by
  by_cases h0 : 0 ≤ mode
  · by_cases h1 : mode ≤ 2047
    · cases h : (mode / 512 % 2 == 1) with
      | false => exact runs_no u a n c gs owner mode w hx hnc hc hs h0 h1 h
      | true => exact runs_yes u a n c gs owner mode w hx hnc hc hs h0 h1 h
    · exact runs_high u a n c gs owner mode w hx hnc hc hs h0 (by omega)
  · exact runs_low u a n c gs owner mode w hx hnc hc hs (by omega)

end Go.Proofs.YtkjmmpdmbdimoaaDoor
