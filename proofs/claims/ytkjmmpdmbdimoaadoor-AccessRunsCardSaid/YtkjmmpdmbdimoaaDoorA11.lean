/- slices.Clone at []int with at most eight numbers; the contract of Run. -/
import Derived.Test.YtkjmmpdmbdimoaaDoorA10
import Derived.Test.YtkjmmpdmbdimoaaDoorA5
import Derived.Deep.RegionHeld3
namespace Go.Proofs.YtkjmmpdmbdimoaaDoor
open Go.RowKit Go.Own

def ClonePost (n : Nat) (zs : List Int) (w : World) (e : Ending) (w' : World) : Prop :=
  ∃ A cap, e = .returned (.slice A n cap) ∧ Ints w' A n zs ∧ NewAt w A n ∧ Below w.heap.size w w'

theorem clone_calls (a : Option Addr) (n c : Nat) (zs : List Int) (w : World) (hx : Ints w a n zs) (hn : n ≤ 8) :
    Calls Tryd.prog 33 #[.slice a n c] w (ClonePost n zs w) := by
  cases a with
  | none =>
    have h0 : n = 0 := by
      rcases Nat.eq_zero_or_pos n with h | h
      · exact h
      · obtain ⟨b, o, e, _⟩ := hx.2.2 0 h
        cases e
    subst h0
    have he : ∀ w : World, (binOp .eql 22 (.slice none 0 c) (.slice none 0 0)).run Tryd.prog w = .ok (.bool true) w := fun _ => rfl
    go_enter Tryd.func33, Tryd.ntmps33
    go_wp2
    go_ret
    exact ⟨none, 0, rfl, hx, fun h => absurd h (by omega), Below.refl _ _⟩
  | some p =>
    have X1 := bel1 w (.cells #[] 3)
    have he : ∀ w : World, (binOp .eql 22 (.slice (some p) n c) (.slice none 0 0)).run Tryd.prog w = .ok (.bool false) w := fun _ => rfl
    go_enter Tryd.func33, Tryd.ntmps33
    go_wp2_with (refine wpList_append_ints (by rfl) (by rfl) zs (hx.later X1) hn ?_; intro A1 c1 w4 ⟨hI4, hN4⟩ hb4)
    go_ret
    exact ⟨A1, c1, rfl, hI4, hN4.mono (by simp), bel_then X1 (by simp) hb4⟩

def runI (u owner m : Int) : Int := if validB m = true ∧ (bits BinOp.and IntKind.i64 m 512 != 0) = true then owner else u
def RunPost (r : Int) (n : Nat) (zs : List Int) (w : World) (e : Ending) (w' : World) : Prop :=
  ∃ A cap, e = .returned (.agg #[.int .i64 r, .slice A n cap]) ∧ Ints w' A n zs ∧ NewAt w A n ∧ Below w.heap.size w w'


theorem Ints.setFar {w : World} {A : Option Addr} {n : Nat} {zs : List Int} (h : Ints w A n zs) {p : Addr} (hp : ∀ b o, 0 < n → A = some ⟨b, o, none⟩ → b ≠ p.block) (v : Value) : Ints (w.setCell p v) A n zs :=
  ⟨h.1, h.2.1, fun j hj => by
    obtain ⟨b, o, e, hc⟩ := h.2.2 j hj
    refine ⟨b, o, e, ?_⟩
    rw [World.cell?_of_block (w := w) (Below.heap_setCell w p v b (hp b o (by omega) e))]
    exact hc⟩
theorem Ints.low {w : World} {A : Option Addr} {n : Nat} {zs : List Int} (h : Ints w A n zs) : ∀ b o, 0 < n → A = some ⟨b, o, none⟩ → b < w.heap.size := fun b o hn e => by
  obtain ⟨b', o', e', hc⟩ := h.2.2 0 hn
  rw [e] at e'
  simp only [Option.some.injEq, Addr.mk.injEq, and_true] at e'
  rw [e'.1]
  exact World.block_lt_of_cell? w ⟨b', o' + 0, none⟩ hc

theorem qm_drew (B : Nat) (w : World) : Below B w w.drew := ⟨rfl, rfl, rfl, Nat.le_refl _, fun _ _ => rfl⟩
/-- The world before the composite literal of Run. -/
structure RM (w w2 : World) (u : Int) (a : Option Addr) (n c : Nat) (zs : List Int) : Prop where
  b0 : Blk w2 w.heap.size [.int .i64 u, .slice a n c] 28
  b1 : Blk w2 (w.heap.size + 1) [.int .i64 0, .slice none 0 0] 28
  i : Ints w2 a n zs
  sz : w2.heap.size = w.heap.size + 2
  bel : Below w.heap.size w w2
theorem rm_new {w : World} {u : Int} {a : Option Addr} {n c : Nat} {zs : List Int} (h : Ints w a n zs) :
    RM w ((w.alloc (.cells #[.int .i64 u, .slice a n c] 28)).alloc (.cells #[.int .i64 0, .slice none 0 0] 28)) u a n c zs := by
  have X := ((Below.refl w.heap.size w).alloc (Nat.le_refl _) (.cells #[.int .i64 u, .slice a n c] 28)).alloc (by simp) (.cells #[.int .i64 0, .slice none 0 0] 28)
  refine ⟨(Blk.new w [.int .i64 u, .slice a n c] 28).alloc _, ?_, h.later X, by simp, X⟩
  have h := Blk.new (w.alloc (.cells #[.int .i64 u, .slice a n c] 28)) [.int .i64 0, .slice none 0 0] 28
  rwa [World.size_alloc] at h

/-- The world behind it: Y is the block of the identity that is returned. -/
structure RN (w W : World) (Y : Nat) (u : Int) (A : Option Addr) (n cap : Nat) (zs : List Int) : Prop where
  b1 : Blk W (w.heap.size + 1) [.int .i64 0, .slice none 0 0] 28
  bY : Blk W Y [.int .i64 u, .slice A n cap] 28
  lt : w.heap.size + 1 < Y
  i : Ints W A n zs
  far : ∀ b o, 0 < n → A = some ⟨b, o, none⟩ → b ≠ Y ∧ w.heap.size + 1 < b
  bel : Below w.heap.size w W
theorem new_far {w0 : World} {A : Option Addr} {n : Nat} (h : NewAt w0 A n) : ∀ b o, 0 < n → A = some ⟨b, o, none⟩ → w0.heap.size ≤ b := fun b o hn e => by
  obtain ⟨b', o', e', hb⟩ := h hn
  rw [e] at e'
  simp only [Option.some.injEq, Addr.mk.injEq, and_true] at e'
  rw [e'.1]
  exact hb
theorem drew_size (w : World) : w.drew.heap.size = w.heap.size := rfl
/-- The variable was made first, then the call. -/
theorem rn_one {w w2 w3 : World} {u : Int} {a A : Option Addr} {n c cap : Nat} {zs : List Int} (h : RM w w2 u a n c zs) (hI : Ints w3 A n zs) (hN : NewAt (w2.alloc (.cells #[.int .i64 0, .slice none 0 0] 28)).drew A n)
    (hb : Below (w2.alloc (.cells #[.int .i64 0, .slice none 0 0] 28)).drew.heap.size (w2.alloc (.cells #[.int .i64 0, .slice none 0 0] 28)).drew w3) :
    RN w ((w3.setCell ⟨w2.heap.size, 0, none⟩ (.int .i64 u)).setCell ⟨w2.heap.size, 1, none⟩ (.slice A n cap)) w2.heap.size u A n cap zs := by
  have hsz := h.sz
  have hs : (w2.alloc (.cells #[.int .i64 0, .slice none 0 0] 28)).drew.heap.size = w.heap.size + 3 := by rw [drew_size, World.size_alloc, hsz]
  have hf := new_far hN
  rw [hs] at hf hb
  have b1 := (h.b1.alloc (.cells #[.int .i64 0, .slice none 0 0] 28)).drew.below hb (by omega)
  have bY : Blk w3 w2.heap.size [.int .i64 0, .slice none 0 0] 28 := (Blk.new w2 [.int .i64 0, .slice none 0 0] 28).drew.below hb (by omega)
  have far : ∀ b o, 0 < n → A = some ⟨b, o, none⟩ → b ≠ w2.heap.size ∧ w.heap.size + 1 < b := fun b o hn e => by have := hf b o hn e; omega
  exact ⟨(b1.other (by simp; omega) _).other (by simp; omega) _, (bY.set 0 _).set 1 _, by omega, (hI.setFar (fun b o hn e => (far b o hn e).1) _).setFar (fun b o hn e => (far b o hn e).1) _, far,
    ((bel_then h.bel (by omega) ((bel1 w2 _).trans ((qm_drew w2.heap.size _).trans (hb.mono (by omega))))).setCell (p := ⟨w2.heap.size, 0, none⟩) (by show _ ≤ w2.heap.size; omega) _).setCell (p := ⟨w2.heap.size, 1, none⟩) (by show _ ≤ w2.heap.size; omega) _⟩
theorem one_blk {w2 w3 : World} (hb : Below (w2.alloc (.cells #[.int .i64 0, .slice none 0 0] 28)).drew.heap.size (w2.alloc (.cells #[.int .i64 0, .slice none 0 0] 28)).drew w3) : Blk w3 w2.heap.size [.int .i64 0, .slice none 0 0] 28 :=
  (Blk.new w2 [.int .i64 0, .slice none 0 0] 28).drew.below hb (by rw [drew_size, World.size_alloc]; omega)
/-- The call was first. -/
theorem rn_two {w w2 w3 : World} {u : Int} {a A : Option Addr} {n c cap : Nat} {zs : List Int} (h : RM w w2 u a n c zs) (hI : Ints w3 A n zs) (hN : NewAt w2.drew A n)
    (hb : Below w2.drew.heap.size w2.drew w3) :
    RN w (w3.alloc (.cells #[.int .i64 u, .slice A n cap] 28)) w3.heap.size u A n cap zs := by
  have hsz := h.sz
  have hs : w2.drew.heap.size = w.heap.size + 2 := by rw [drew_size, hsz]
  have hs3 := hb.size
  have hf := new_far hN
  have hl := hI.low
  rw [hs] at hf hb hs3
  have b1 := (h.b1.drew.below hb (by omega)).alloc (.cells #[.int .i64 u, .slice A n cap] 28)
  have bY := Blk.new w3 [.int .i64 u, .slice A n cap] 28
  have far : ∀ b o, 0 < n → A = some ⟨b, o, none⟩ → b ≠ w3.heap.size ∧ w.heap.size + 1 < b := fun b o hn e => by have := hf b o hn e; have := hl b o hn e; omega
  exact ⟨b1, bY, by omega, hI.later (bel1 _ _), far, (bel_then h.bel (by omega) ((qm_drew w2.heap.size w2).trans (hb.mono (by omega)))).alloc (by omega) _⟩
theorem RN.own {w W : World} {Y : Nat} {u : Int} {A : Option Addr} {n cap : Nat} {zs : List Int} (h : RN w W Y u A n cap zs) (x : Int) : RN w (W.setCell ⟨Y, 0, none⟩ (.int .i64 x)) Y x A n cap zs :=
  ⟨h.b1.other (by have := h.lt; simp; omega) _, h.bY.set 0 _, h.lt, h.i.setFar (fun b o hn e => (h.far b o hn e).1) _, h.far, h.bel.setCell (p := ⟨Y, 0, none⟩) (by have := h.lt; show _ ≤ Y; omega) _⟩
theorem RN.post {w W : World} {Y : Nat} {u : Int} {A : Option Addr} {n cap : Nat} {zs : List Int} (h : RN w W Y u A n cap zs) :
    RunPost u n zs w (.returned (.agg #[.int .i64 u, .slice A n cap])) ((W.setCell ⟨w.heap.size + 1, 0, none⟩ (.int .i64 u)).setCell ⟨w.heap.size + 1, 1, none⟩ (.slice A n cap)) :=
  ⟨A, cap, rfl, (h.i.setFar (fun b o hn e => by have := (h.far b o hn e).2; simp; omega) _).setFar (fun b o hn e => by have := (h.far b o hn e).2; simp; omega) _,
    fun hn => by
      obtain ⟨b, o, e, _⟩ := h.i.2.2 0 hn
      have := (h.far b o hn e).2
      exact ⟨b, o, e, by omega⟩,
    (h.bel.setCell (p := ⟨w.heap.size + 1, 0, none⟩) (Nat.le_succ _) _).setCell (p := ⟨w.heap.size + 1, 1, none⟩) (Nat.le_succ _) _⟩

set_option maxHeartbeats 2000000 in
theorem run_calls (u : Int) (a : Option Addr) (n c : Nat) (zs : List Int) (owner m : Int) (w : World) (hx : Ints w a n zs) (hn : n ≤ 8) :
    Calls Tryd.prog 19 #[.agg #[.int .i64 u, .slice a n c], .int .i64 owner, .int .i64 m] w (RunPost (runI u owner m) n zs w) := by
  have HM := Lib.hid (rm_new (u := u) (c := c) hx)
  obtain ⟨r, hr⟩ : ∃ r, r = runI u owner m := ⟨_, rfl⟩
  rw [← hr]
  have HR := Lib.hid hr
  clear hr
  cases hv : validB m with
  | false =>
    have HV := Lib.hid hv
    clear hx
    go_enter Tryd.func19, Tryd.ntmps19
    go_wp2_with fail
    obtain ⟨w2, hw2⟩ : ∃ w2, w2 = ((w.alloc (.cells #[.int .i64 u, .slice a n c] 28)).alloc (.cells #[.int .i64 0, .slice none 0 0] 28)) := ⟨_, rfl⟩
    rw [← hw2] at HM ⊢
    clear hw2
    have ne2 : w2.heap.size ≠ w.heap.size := by have := HM.out.sz; omega
    have q0 := HM.out.b0.cell 0 rfl
    have q1 := HM.out.b0.cell 1 rfl
    go_region_held3 (fun w' => w'.cell? ⟨w.heap.size, 0, none⟩ = some (.int .i64 u) ∧ w'.cell? ⟨w.heap.size, 1, none⟩ = some (.slice a n c)) (first | (refine ⟨?_, ?_⟩ <;> (first | (with_reducible assumption))) | go_keep)
     ((first
      | (go_at_call 33; (with_reducible refine (clone_calls a n c zs w2.drew (HM.out.i.later (qm_drew _ _)) hn).mono ?_); rintro e w3 ⟨A1, c1, rfl, hI, hN, hb3⟩; have HN := Lib.hid (rn_two (cap := c1) HM.out hI hN hb3); have g0 := (HM.out.b0.drew.below hb3 (HM.out.b0.drew.lt)).cell 0 rfl; have g1 := (HM.out.b0.drew.below hb3 (HM.out.b0.drew.lt)).cell 1 rfl; have ne3 : w3.heap.size ≠ w.heap.size := World.new_ne w3 ⟨w.heap.size, 0, none⟩ g0; clear hI hN hb3)
      | (go_at_call 33; (with_reducible refine (clone_calls a n c zs (w2.alloc (.cells #[.int .i64 0, .slice none 0 0] 28)).drew (HM.out.i.later (who_drew w2 _)) hn).mono ?_); rintro e w3 ⟨A1, c1, rfl, hI, hN, hb3⟩; have HN := Lib.hid (rn_one (cap := c1) HM.out hI hN hb3); have y0 := (one_blk hb3).cell 0 rfl; have y1 := (one_blk hb3).cell 1 rfl; have yf0 := (one_blk hb3).free 0; have yf1 := (one_blk hb3).free 1; have g0 := ((HM.out.b0.alloc _).drew.below hb3 ((HM.out.b0.alloc _).drew.lt)).cell 0 rfl; have g1 := ((HM.out.b0.alloc _).drew.below hb3 ((HM.out.b0.alloc _).drew.lt)).cell 1 rfl; clear hI hN hb3)))
    · obtain ⟨W, hW⟩ : ∃ W, W = w3.alloc (.cells #[.int .i64 u, .slice A1 n c1] 28) := ⟨_, rfl⟩
      rw [← hW] at HN ⊢
      clear hW
      have y0 := HN.out.bY.cell 0 rfl
      have y1 := HN.out.bY.cell 1 rfl
      have yf0 := HN.out.bY.free 0
      go_upto_region 4 with (go_at_call 23; refine (valid_calls _ _).mono ?_; rintro e w7 ⟨rfl, rfl⟩)
      have x0 := HN.out.b1.cell 0 rfl
      have x1 := HN.out.b1.cell 1 rfl
      have xf0 := HN.out.b1.free 0
      have xf1 := HN.out.b1.free 1
      go_wp2
      have e : r = u := by have := HR.out; rw [this]; simp [runI, HV.out]
      rw [e]
      refine bodyPost_ret (v := .agg #[.int .i64 u, .slice A1 n c1]) (by simp [results, Tryd.results19, go_sem, x0, x1, xf0, xf1]) rfl ?_
      exact HN.out.post
    · obtain ⟨W, hW⟩ : ∃ W, W = (w3.setCell ⟨w2.heap.size, 0, none⟩ (.int .i64 u)).setCell ⟨w2.heap.size, 1, none⟩ (.slice A1 n c1) := ⟨_, rfl⟩
      rw [← hW] at HN ⊢
      clear hW
      have y0 := HN.out.bY.cell 0 rfl
      have y1 := HN.out.bY.cell 1 rfl
      have yf0 := HN.out.bY.free 0
      go_upto_region 4 with (go_at_call 23; refine (valid_calls _ _).mono ?_; rintro e w7 ⟨rfl, rfl⟩)
      have x0 := HN.out.b1.cell 0 rfl
      have x1 := HN.out.b1.cell 1 rfl
      have xf0 := HN.out.b1.free 0
      have xf1 := HN.out.b1.free 1
      go_wp2
      have e : r = u := by have := HR.out; rw [this]; simp [runI, HV.out]
      rw [e]
      refine bodyPost_ret (v := .agg #[.int .i64 u, .slice A1 n c1]) (by simp [results, Tryd.results19, go_sem, x0, x1, xf0, xf1]) rfl ?_
      exact HN.out.post
  | true =>
    cases hb : (bits BinOp.and IntKind.i64 m 512 != 0) with
    | false =>
      have HV := Lib.hid hv
      have HB := Lib.hid hb
      clear hx
      go_enter Tryd.func19, Tryd.ntmps19
      go_wp2_with fail
      obtain ⟨w2, hw2⟩ : ∃ w2, w2 = ((w.alloc (.cells #[.int .i64 u, .slice a n c] 28)).alloc (.cells #[.int .i64 0, .slice none 0 0] 28)) := ⟨_, rfl⟩
      rw [← hw2] at HM ⊢
      clear hw2
      have ne2 : w2.heap.size ≠ w.heap.size := by have := HM.out.sz; omega
      have q0 := HM.out.b0.cell 0 rfl
      have q1 := HM.out.b0.cell 1 rfl
      go_region_held3 (fun w' => w'.cell? ⟨w.heap.size, 0, none⟩ = some (.int .i64 u) ∧ w'.cell? ⟨w.heap.size, 1, none⟩ = some (.slice a n c)) (first | (refine ⟨?_, ?_⟩ <;> (first | (with_reducible assumption))) | go_keep)
       ((first
        | (go_at_call 33; (with_reducible refine (clone_calls a n c zs w2.drew (HM.out.i.later (qm_drew _ _)) hn).mono ?_); rintro e w3 ⟨A1, c1, rfl, hI, hN, hb3⟩; have HN := Lib.hid (rn_two (cap := c1) HM.out hI hN hb3); have g0 := (HM.out.b0.drew.below hb3 (HM.out.b0.drew.lt)).cell 0 rfl; have g1 := (HM.out.b0.drew.below hb3 (HM.out.b0.drew.lt)).cell 1 rfl; have ne3 : w3.heap.size ≠ w.heap.size := World.new_ne w3 ⟨w.heap.size, 0, none⟩ g0; clear hI hN hb3)
        | (go_at_call 33; (with_reducible refine (clone_calls a n c zs (w2.alloc (.cells #[.int .i64 0, .slice none 0 0] 28)).drew (HM.out.i.later (who_drew w2 _)) hn).mono ?_); rintro e w3 ⟨A1, c1, rfl, hI, hN, hb3⟩; have HN := Lib.hid (rn_one (cap := c1) HM.out hI hN hb3); have y0 := (one_blk hb3).cell 0 rfl; have y1 := (one_blk hb3).cell 1 rfl; have yf0 := (one_blk hb3).free 0; have yf1 := (one_blk hb3).free 1; have g0 := ((HM.out.b0.alloc _).drew.below hb3 ((HM.out.b0.alloc _).drew.lt)).cell 0 rfl; have g1 := ((HM.out.b0.alloc _).drew.below hb3 ((HM.out.b0.alloc _).drew.lt)).cell 1 rfl; clear hI hN hb3)))
      · obtain ⟨W, hW⟩ : ∃ W, W = w3.alloc (.cells #[.int .i64 u, .slice A1 n c1] 28) := ⟨_, rfl⟩
        rw [← hW] at HN ⊢
        clear hW
        have y0 := HN.out.bY.cell 0 rfl
        have y1 := HN.out.bY.cell 1 rfl
        have yf0 := HN.out.bY.free 0
        go_upto_region 4 with (go_at_call 23; refine (valid_calls _ _).mono ?_; rintro e w7 ⟨rfl, rfl⟩)
        have x0 := HN.out.b1.cell 0 rfl
        have x1 := HN.out.b1.cell 1 rfl
        have xf0 := HN.out.b1.free 0
        have xf1 := HN.out.b1.free 1
        go_wp2
        have e : r = u := by have := HR.out; rw [this]; simp [runI, HV.out, HB.out]
        rw [e]
        refine bodyPost_ret (v := .agg #[.int .i64 u, .slice A1 n c1]) (by simp [results, Tryd.results19, go_sem, x0, x1, xf0, xf1]) rfl ?_
        exact HN.out.post
      · obtain ⟨W, hW⟩ : ∃ W, W = (w3.setCell ⟨w2.heap.size, 0, none⟩ (.int .i64 u)).setCell ⟨w2.heap.size, 1, none⟩ (.slice A1 n c1) := ⟨_, rfl⟩
        rw [← hW] at HN ⊢
        clear hW
        have y0 := HN.out.bY.cell 0 rfl
        have y1 := HN.out.bY.cell 1 rfl
        have yf0 := HN.out.bY.free 0
        go_upto_region 4 with (go_at_call 23; refine (valid_calls _ _).mono ?_; rintro e w7 ⟨rfl, rfl⟩)
        have x0 := HN.out.b1.cell 0 rfl
        have x1 := HN.out.b1.cell 1 rfl
        have xf0 := HN.out.b1.free 0
        have xf1 := HN.out.b1.free 1
        go_wp2
        have e : r = u := by have := HR.out; rw [this]; simp [runI, HV.out, HB.out]
        rw [e]
        refine bodyPost_ret (v := .agg #[.int .i64 u, .slice A1 n c1]) (by simp [results, Tryd.results19, go_sem, x0, x1, xf0, xf1]) rfl ?_
        exact HN.out.post
    | true =>
      have HV := Lib.hid hv
      have HB := Lib.hid hb
      clear hx
      go_enter Tryd.func19, Tryd.ntmps19
      go_wp2_with fail
      obtain ⟨w2, hw2⟩ : ∃ w2, w2 = ((w.alloc (.cells #[.int .i64 u, .slice a n c] 28)).alloc (.cells #[.int .i64 0, .slice none 0 0] 28)) := ⟨_, rfl⟩
      rw [← hw2] at HM ⊢
      clear hw2
      have ne2 : w2.heap.size ≠ w.heap.size := by have := HM.out.sz; omega
      have q0 := HM.out.b0.cell 0 rfl
      have q1 := HM.out.b0.cell 1 rfl
      go_region_held3 (fun w' => w'.cell? ⟨w.heap.size, 0, none⟩ = some (.int .i64 u) ∧ w'.cell? ⟨w.heap.size, 1, none⟩ = some (.slice a n c)) (first | (refine ⟨?_, ?_⟩ <;> (first | (with_reducible assumption))) | go_keep)
       ((first
        | (go_at_call 33; (with_reducible refine (clone_calls a n c zs w2.drew (HM.out.i.later (qm_drew _ _)) hn).mono ?_); rintro e w3 ⟨A1, c1, rfl, hI, hN, hb3⟩; have HN := Lib.hid (rn_two (cap := c1) HM.out hI hN hb3); have g0 := (HM.out.b0.drew.below hb3 (HM.out.b0.drew.lt)).cell 0 rfl; have g1 := (HM.out.b0.drew.below hb3 (HM.out.b0.drew.lt)).cell 1 rfl; have ne3 : w3.heap.size ≠ w.heap.size := World.new_ne w3 ⟨w.heap.size, 0, none⟩ g0; clear hI hN hb3)
        | (go_at_call 33; (with_reducible refine (clone_calls a n c zs (w2.alloc (.cells #[.int .i64 0, .slice none 0 0] 28)).drew (HM.out.i.later (who_drew w2 _)) hn).mono ?_); rintro e w3 ⟨A1, c1, rfl, hI, hN, hb3⟩; have HN := Lib.hid (rn_one (cap := c1) HM.out hI hN hb3); have y0 := (one_blk hb3).cell 0 rfl; have y1 := (one_blk hb3).cell 1 rfl; have yf0 := (one_blk hb3).free 0; have yf1 := (one_blk hb3).free 1; have g0 := ((HM.out.b0.alloc _).drew.below hb3 ((HM.out.b0.alloc _).drew.lt)).cell 0 rfl; have g1 := ((HM.out.b0.alloc _).drew.below hb3 ((HM.out.b0.alloc _).drew.lt)).cell 1 rfl; clear hI hN hb3)))
      · obtain ⟨W, hW⟩ : ∃ W, W = w3.alloc (.cells #[.int .i64 u, .slice A1 n c1] 28) := ⟨_, rfl⟩
        rw [← hW] at HN ⊢
        clear hW
        have y0 := HN.out.bY.cell 0 rfl
        have y1 := HN.out.bY.cell 1 rfl
        have yf0 := HN.out.bY.free 0
        go_upto_region 4 with (go_at_call 23; refine (valid_calls _ _).mono ?_; rintro e w7 ⟨rfl, rfl⟩)
        have HN := Lib.hid (HN.out.own owner)
        obtain ⟨W2, hW2⟩ : ∃ W2, W2 = W.setCell ⟨w3.heap.size, 0, none⟩ (.int .i64 owner) := ⟨_, rfl⟩
        rw [← hW2] at HN ⊢
        clear hW2 y0 y1 yf0
        have y0 := HN.out.bY.cell 0 rfl
        have y1 := HN.out.bY.cell 1 rfl
        have x0 := HN.out.b1.cell 0 rfl
        have x1 := HN.out.b1.cell 1 rfl
        have xf0 := HN.out.b1.free 0
        have xf1 := HN.out.b1.free 1
        go_wp2
        have e : r = owner := by have := HR.out; rw [this]; simp [runI, HV.out, HB.out]
        rw [e]
        refine bodyPost_ret (v := .agg #[.int .i64 owner, .slice A1 n c1]) (by simp [results, Tryd.results19, go_sem, x0, x1, xf0, xf1]) rfl ?_
        exact HN.out.post
      · obtain ⟨W, hW⟩ : ∃ W, W = (w3.setCell ⟨w2.heap.size, 0, none⟩ (.int .i64 u)).setCell ⟨w2.heap.size, 1, none⟩ (.slice A1 n c1) := ⟨_, rfl⟩
        rw [← hW] at HN ⊢
        clear hW
        have y0 := HN.out.bY.cell 0 rfl
        have y1 := HN.out.bY.cell 1 rfl
        have yf0 := HN.out.bY.free 0
        go_upto_region 4 with (go_at_call 23; refine (valid_calls _ _).mono ?_; rintro e w7 ⟨rfl, rfl⟩)
        have HN := Lib.hid (HN.out.own owner)
        obtain ⟨W2, hW2⟩ : ∃ W2, W2 = W.setCell ⟨w2.heap.size, 0, none⟩ (.int .i64 owner) := ⟨_, rfl⟩
        rw [← hW2] at HN ⊢
        clear hW2 y0 y1 yf0
        have y0 := HN.out.bY.cell 0 rfl
        have y1 := HN.out.bY.cell 1 rfl
        have x0 := HN.out.b1.cell 0 rfl
        have x1 := HN.out.b1.cell 1 rfl
        have xf0 := HN.out.b1.free 0
        have xf1 := HN.out.b1.free 1
        go_wp2
        have e : r = owner := by have := HR.out; rw [this]; simp [runI, HV.out, HB.out]
        rw [e]
        refine bodyPost_ret (v := .agg #[.int .i64 owner, .slice A1 n c1]) (by simp [results, Tryd.results19, go_sem, x0, x1, xf0, xf1]) rfl ?_
        exact HN.out.post
end Go.Proofs.YtkjmmpdmbdimoaaDoor
