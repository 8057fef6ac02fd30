/- The walk of AccessParts. -/
import Derived.Test.YtkjmmpdmbdimoaaDoorA5
import Derived.Test.YtkjmmpdmbdimoaaDoorA10
import Derived.Test.YtkjmmpdmbdimoaaDoorB1
namespace Go.Proofs.YtkjmmpdmbdimoaaDoor
open Go.RowKit Go.Own

theorem or_all : ∀ (a b h : Fin 8), (0 ≤ bits .or .i64 (a : Nat) (b : Nat) ∧ bits .or .i64 (a : Nat) (b : Nat) ≤ 7) ∧ ((bits .and .i64 (h : Nat) (bits .or .i64 (a : Nat) (b : Nat)) == bits .or .i64 (a : Nat) (b : Nat)) = ((bits .and .i64 (h : Nat) (a : Nat) == ((a : Nat) : Int)) && (bits .and .i64 (h : Nat) (b : Nat) == ((b : Nat) : Int)))) := by decide +kernel
theorem req_val {u : Int} {gs : List Int} {fo fg m want : Int} (hv : validB m = true) (h0 : 0 ≤ want) (h1 : want ≤ 7) : (requireI u gs fo fg m want == 0) = (decide (u = 0) || (bits .and .i64 (bitsI m (classI u gs fo fg)) want == want)) := by
  unfold requireI
  rw [if_pos ⟨hv, h0, h1⟩]
  by_cases hu : u = 0
  · simp [hu]
  · by_cases hb : bits .and .i64 (bitsI m (classI u gs fo fg)) want = want
    · simp [hu, hb]
    · simp [hu, hb]
theorem req_or {u : Int} {gs : List Int} {fo fg m a b : Int} (hv : validB m = true) (a0 : 0 ≤ a) (a1 : a ≤ 7) (b0 : 0 ≤ b) (b1 : b ≤ 7) :
    (requireI u gs fo fg m (bits .or .i64 a b) == 0) = ((requireI u gs fo fg m a == 0) && (requireI u gs fo fg m b == 0)) := by
  have hr := bitsI_range hv (classI_cases u gs fo fg)
  obtain ⟨i, rfl⟩ := Int.eq_ofNat_of_zero_le a0
  obtain ⟨j, rfl⟩ := Int.eq_ofNat_of_zero_le b0
  obtain ⟨k, hk⟩ := Int.eq_ofNat_of_zero_le hr.1
  have h := or_all ⟨i, by omega⟩ ⟨j, by omega⟩ ⟨k, by omega⟩
  rw [req_val hv h.1.1 h.1.2, req_val hv a0 a1, req_val hv b0 b1, hk]
  rw [show (bits .and .i64 ((k : Nat) : Int) (bits .or .i64 ((i : Nat) : Int) ((j : Nat) : Int)) == bits .or .i64 ((i : Nat) : Int) ((j : Nat) : Int)) = _ from h.2]
  cases decide (u = 0) <;> simp
theorem req_op {gs : List Int} {fo fg m a : Int} (hv : validB m = true) (a0 : 0 ≤ a) (a1 : a ≤ 7) : requireI 0 gs fo fg m a = 0 := by
  unfold requireI
  rw [if_pos ⟨hv, a0, a1⟩, if_pos (.inl rfl)]

theorem three_blks {w w4 : World} {c1 c2 c3 : List Value} {t1 t2 t3 : TypeId}
    (hb : Below (((w.alloc (.cells c1.toArray t1)).alloc (.cells c2.toArray t2)).alloc (.cells c3.toArray t3)).heap.size (((w.alloc (.cells c1.toArray t1)).alloc (.cells c2.toArray t2)).alloc (.cells c3.toArray t3)) w4) :
    Blk w4 w.heap.size c1 t1 ∧ Blk w4 (w.heap.size + 1) c2 t2 ∧ Blk w4 (w.heap.size + 1 + 1) c3 t3 ∧ w.heap.size + 1 + 1 < w4.heap.size ∧ Below w.heap.size w w4 := by
  have hs := hb.size
  simp only [World.size_alloc] at hs
  refine ⟨(((Blk.new w c1 t1).alloc _).alloc _).below hb (by simp only [World.size_alloc]; omega), ?_, ?_, by omega, bel_then ((((Below.refl w.heap.size w).alloc (Nat.le_refl _) _).alloc (by simp) _).alloc (by simp; omega) _) (by simp only [World.size_alloc]; omega) hb⟩
  · have h := ((Blk.new (w.alloc (.cells c1.toArray t1)) c2 t2).alloc (.cells c3.toArray t3)).below hb (by simp only [World.size_alloc]; omega)
    rwa [World.size_alloc] at h
  · have h := (Blk.new ((w.alloc (.cells c1.toArray t1)).alloc (.cells c2.toArray t2)) c3 t3).below hb (by simp only [World.size_alloc]; omega)
    rwa [World.size_alloc, World.size_alloc] at h

/-- What stands in the world between two calls: the blocks of the variables, the two lists, the shifts. -/
structure PM (w0 : World) (Y : Nat) (u fo fg m x y : Int) (A1 A2 : Option Addr) (k c1 c2 : Nat) (zs : List Int) (t0 t1 t2 t3 : TypeId) (w : World) : Prop where
  b0 : Blk w w0.heap.size [.int .i64 u, .slice A2 k c2] t0
  b1 : Blk w (w0.heap.size + 1) [.int .i64 fo, .int .i64 fg, .int .i64 m] t1
  b2 : Blk w (w0.heap.size + 1 + 1) [.int .u8 x, .int .u8 y] t2
  b3 : Blk w Y [.int .i64 u, .slice A1 k c1] t3
  i1 : Ints w A1 k zs
  i2 : Ints w A2 k zs
  sh : Shifts w
  bel : Below w0.heap.size w0 w

theorem PM.later {w0 w w' : World} {Y : Nat} {u fo fg m x y : Int} {A1 A2 : Option Addr} {k c1 c2 : Nat} {zs : List Int} {t0 t1 t2 t3 : TypeId} (h : PM w0 Y u fo fg m x y A1 A2 k c1 c2 zs t0 t1 t2 t3 w) (hb : Below w.heap.size w w') :
    PM w0 Y u fo fg m x y A1 A2 k c1 c2 zs t0 t1 t2 t3 w' :=
  ⟨h.b0.below hb h.b0.lt, h.b1.below hb h.b1.lt, h.b2.below hb h.b2.lt, h.b3.below hb h.b3.lt, h.i1.later hb, h.i2.later hb, h.sh.later hb, bel_then h.bel h.bel.size hb⟩

theorem pm_drew (B : Nat) (w : World) (n : Nat) : Below B w (w.drewN n) := ⟨rfl, rfl, rfl, Nat.le_refl _, fun _ _ => rfl⟩

theorem pm_new {w0 w3 w4 : World} {u fo fg m x y : Int} {A1 A2 : Option Addr} {k c1 c2 : Nat} {zs : List Int} {t0 t1 t2 t3 : TypeId} {v : Value}
    (b0 : Blk w4 w0.heap.size [.int .i64 u, v] t0) (b1 : Blk w4 (w0.heap.size + 1) [.int .i64 fo, .int .i64 fg, .int .i64 m] t1) (b2 : Blk w4 (w0.heap.size + 1 + 1) [.int .u8 x, .int .u8 y] t2)
    (i1 : Ints w4 A1 k zs) (i2 : Ints w4 A2 k zs) (n1 : NewAt w3 A1 k) (n2 : NewAt w3 A2 k) (h3 : w0.heap.size < w3.heap.size) (hb : Below w0.heap.size w0 w4) (hs : Shifts w0) :
    PM w0 w4.heap.size u fo fg m x y A1 A2 k c1 c2 zs t0 t1 t2 t3 (((w4.setCell ⟨w0.heap.size, 0, none⟩ (.int .i64 u)).setCell ⟨w0.heap.size, 1, none⟩ (.slice A2 k c2)).alloc (.cells #[.int .i64 u, .slice A1 k c1] t3)) := by
  have hb' := ((hb.setCell (p := ⟨w0.heap.size, 0, none⟩) (Nat.le_refl _) (.int .i64 u)).setCell (p := ⟨w0.heap.size, 1, none⟩) (Nat.le_refl _) (.slice A2 k c2))
  have hb'' := bel_then hb' hb'.size (bel1 _ (.cells #[.int .i64 u, .slice A1 k c1] t3))
  refine ⟨((b0.set 0 _).set 1 _).alloc _, ((b1.other (by simp) _).other (by simp) _).alloc _, ((b2.other (by simp; omega) _).other (by simp; omega) _).alloc _, ?_, ((i1.setCell n1 h3 _).setCell n1 h3 _).later (bel1 _ _), ((i2.setCell n2 h3 _).setCell n2 h3 _).later (bel1 _ _), hs.later hb'', hb''⟩
  have := Blk.new ((w4.setCell ⟨w0.heap.size, 0, none⟩ (.int .i64 u)).setCell ⟨w0.heap.size, 1, none⟩ (.slice A2 k c2)) [.int .i64 u, .slice A1 k c1] t3
  rwa [World.size_setCell, World.size_setCell] at this

theorem op_calls (a : Option Addr) (n c : Nat) (gs : List Int) (fo fg m x : Int) (w : World) (hx : Ints w a n gs) (hs : Shifts w) (hv : validB m = true) (h0 : 0 ≤ x) (h1 : x ≤ 7) :
    Calls Tryd.prog 11 #[.agg #[.int .i64 0, .slice a n c], .int .i64 fo, .int .i64 fg, .int .i64 m, .int .i64 x] w fun e w' => e = .returned (.int .i64 0) ∧ Below w.heap.size w w' :=
  (require_calls 0 a n c gs fo fg m x w hx hs).mono fun e w' h => ⟨by rw [h.1, req_op hv h0 h1], h.2⟩

set_option maxHeartbeats 2000000 in
theorem parts_calls (u : Int) (a : Option Addr) (n c : Nat) (gs : List Int) (fo fg m x y : Int) (w : World) (hx : Ints w a n gs) (hnc : n ≤ c) (hc : c ≤ 9223372036854775807) (hs : Shifts w)
    (x0 : 0 ≤ x) (x1 : x ≤ 255) (y0 : 0 ≤ y) (y1 : y ≤ 255) :
    Calls Tryd.prog 3 #[.agg #[.int .i64 u, .slice a n c], .agg #[.int .i64 fo, .int .i64 fg, .int .i64 m], .agg #[.int .u8 x, .int .u8 y]] w fun e w' => e = .returned (.bool true) ∧ Below w.heap.size w w' := by
  have X1 := fun o1 o2 o3 => (((Below.refl w.heap.size w).alloc (Nat.le_refl _) o1).alloc (by simp) o2).alloc (by simp; omega) o3
  go_enter Tryd.func3, Tryd.ntmps3
  go_upto_region 2 with (go_at_call 9; refine (who_calls u a n c gs _ (hx.later (X1 _ _ _)) hnc hc).mono ?_; rintro e w4 ⟨A1, c1, A2, c2, rfl, hI1, hI2, hb4, n1, n2⟩; obtain ⟨B0, B1, B2, hs4, hb4'⟩ := three_blks hb4; have q0 := B0.cell 0 rfl; have q1 := B0.cell 1 rfl; have f0 := B0.free 0; have f1 := B0.free 1; have HP := Lib.hid (fun v1 v2 => pm_new (c1 := v1) (c2 := v2) (t3 := 28) B0 B1 B2 hI1 hI2 n1 n2 (by simp only [World.size_alloc]; omega) hb4' hs); have z1 : w.heap.size < w4.heap.size := (by omega); clear B0 B1 B2 hb4 hb4' hI1 hI2 n1 n2)
  have HP := Lib.hid (HP.out c1 c2)
  obtain ⟨w5, hw5⟩ : ∃ w5, w5 = ((w4.setCell ⟨w.heap.size, 0, none⟩ (.int .i64 u)).setCell ⟨w.heap.size, 1, none⟩ (.slice A2 (min n 8) c2)).alloc (.cells #[.int .i64 u, .slice A1 (min n 8) c1] 28) := ⟨_, rfl⟩
  rw [← hw5] at HP ⊢
  clear hw5 q0 q1 f0 f1
  have p0 := HP.out.b1.cell 0 rfl
  have p1 := HP.out.b1.cell 1 rfl
  have p2 := HP.out.b1.cell 2 rfl
  have p3 := HP.out.b2.cell 0 rfl
  have p4 := HP.out.b2.cell 1 rfl
  have p5 := HP.out.b3.cell 0 rfl
  have p6 := HP.out.b3.cell 1 rfl
  have p7 := HP.out.b0.cell 0 rfl
  have p8 := HP.out.b0.cell 1 rfl
  by_cases hv : validB m = true
  · have hv2 := validB_iff.1 hv
    have HV := Lib.hid hv
    have HX := Lib.hid (show 0 ≤ x % 8 ∧ x % 8 ≤ 7 by omega)
    have HOR := Lib.hid (req_or (u := u) (gs := gs.take 8) (fo := fo) (fg := fg) hv HX.out.1 HX.out.2 (show 0 ≤ y % 8 by omega) (show y % 8 ≤ 7 by omega))
    go_wp2
    go_quiet (fail)
    have HP := Lib.hid (HP.out.later (pm_drew _ w5 nq))
    obtain ⟨w6, hw6⟩ : ∃ w6, w6 = w5.drewN nq := ⟨_, rfl⟩
    rw [← hw6] at HP ⊢
    clear hw6
    have p0 := HP.out.b1.cell 0 rfl
    have p1 := HP.out.b1.cell 1 rfl
    have p2 := HP.out.b1.cell 2 rfl
    have p3 := HP.out.b2.cell 0 rfl
    have p4 := HP.out.b2.cell 1 rfl
    have p5 := HP.out.b3.cell 0 rfl
    have p6 := HP.out.b3.cell 1 rfl
    have p7 := HP.out.b0.cell 0 rfl
    have p8 := HP.out.b0.cell 1 rfl
    go_wp2_with (first
      | (go_at_call 11; with_reducible refine (require_calls u A1 _ c1 (gs.take 8) fo fg m _ _ HP.out.i1 HP.out.sh).mono ?_; rintro e w6 ⟨rfl, hb⟩; have HP := Lib.hid (HP.out.later hb); have p0 := HP.out.b1.cell 0 rfl; have p1 := HP.out.b1.cell 1 rfl; have p2 := HP.out.b1.cell 2 rfl; have p3 := HP.out.b2.cell 0 rfl; have p4 := HP.out.b2.cell 1 rfl; have p5 := HP.out.b3.cell 0 rfl; have p6 := HP.out.b3.cell 1 rfl; have p7 := HP.out.b0.cell 0 rfl; have p8 := HP.out.b0.cell 1 rfl; clear hb)
      | (go_at_call 11; with_reducible refine (op_calls A2 _ c2 (gs.take 8) fo fg m (x % 8) _ HP.out.i2 HP.out.sh HV.out HX.out.1 HX.out.2).mono ?_; rintro e w6 ⟨rfl, hb⟩; have HP := Lib.hid (HP.out.later hb); have p0 := HP.out.b1.cell 0 rfl; have p1 := HP.out.b1.cell 1 rfl; have p2 := HP.out.b1.cell 2 rfl; have p3 := HP.out.b2.cell 0 rfl; have p4 := HP.out.b2.cell 1 rfl; have p5 := HP.out.b3.cell 0 rfl; have p6 := HP.out.b3.cell 1 rfl; have p7 := HP.out.b0.cell 0 rfl; have p8 := HP.out.b0.cell 1 rfl; clear hb)
      | (go_at_call 10; with_reducible refine (known_calls _ HP.out.sh).mono ?_; rintro e w6 ⟨rfl, hb⟩; have HP := Lib.hid (HP.out.later hb); have p0 := HP.out.b1.cell 0 rfl; have p1 := HP.out.b1.cell 1 rfl; have p2 := HP.out.b1.cell 2 rfl; have p3 := HP.out.b2.cell 0 rfl; have p4 := HP.out.b2.cell 1 rfl; have p5 := HP.out.b3.cell 0 rfl; have p6 := HP.out.b3.cell 1 rfl; have p7 := HP.out.b0.cell 0 rfl; have p8 := HP.out.b0.cell 1 rfl; clear hb))
    all_goals first
      | (exfalso
         have hor := HOR.out
         first
           | (have h1 : requireI u (gs.take 8) fo fg m (x % 8) = 0 := by with_reducible assumption
              have h2 : ¬ (requireI u (gs.take 8) fo fg m (bits .or .i64 (x % 8) (y % 8)) == 0) = (requireI u (gs.take 8) fo fg m (y % 8) == 0) := by with_reducible assumption
              exact h2 (by rw [hor, h1]; rfl))
           | (have h1 : ¬ requireI u (gs.take 8) fo fg m (x % 8) = 0 := by with_reducible assumption
              have h2 : requireI u (gs.take 8) fo fg m (bits .or .i64 (x % 8) (y % 8)) = 0 := by with_reducible assumption
              rw [h2] at hor
              simp [h1] at hor))
      | (go_ret; exact ⟨rfl, HP.out.bel⟩)
      | (go_ret; refine ⟨?_, HP.out.bel⟩; have hor := HOR.out; have h1 : ¬ requireI u (gs.take 8) fo fg m (x % 8) = 0 := (by with_reducible assumption); rw [show (requireI u (gs.take 8) fo fg m (x % 8) == 0) = false from beq_false_of_ne h1, Bool.false_and] at hor; refine ret_bool (a := !(requireI u (gs.take 8) fo fg m (bits .or .i64 (x % 8) (y % 8)) == 0)) ?_; rw [hor]; rfl)
  · have hv2 : ¬ (0 ≤ m ∧ m ≤ 2047) := fun h => hv (validB_iff.2 h)
    go_wp2_with (go_at_call 10; with_reducible refine (known_calls _ HP.out.sh).mono ?_; rintro e w6 ⟨rfl, hb⟩; have HP := Lib.hid (HP.out.later hb); clear hb)
    all_goals go_ret
    all_goals exact ⟨rfl, HP.out.bel⟩

end Go.Proofs.YtkjmmpdmbdimoaaDoor
