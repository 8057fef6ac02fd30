/- append of at most eight numbers to a new empty slice; the contract of Who. -/
import Derived.Test.YtkjmmpdmbdimoaaDoorA2
import Derived.Test.YtkjmmpdmbdimoaaDoorW2
import Derived.Deep.AppendSrc
import Derived.Deep.RegionHeld3
namespace Go.Proofs.YtkjmmpdmbdimoaaDoor
open Go.RowKit Go.Own

theorem info3 : (Tryd.prog.info? 3).map (fun i => (i.zero, i.size, i.bytes)) = some (some (.int .i64 0), 1, 8) := by kernel_rfl
theorem nextslicecap_0 (n : Nat) : Builtin.nextslicecap n 0 = n ∨ n = 0 := by
  rcases Nat.eq_zero_or_pos n with h | h
  · exact .inr h
  · left
    unfold Builtin.nextslicecap
    simp [h]
theorem firstCells_0 (x : Option Addr) (c : Nat) (w : World) : (Builtin.firstCells 1 0 (.slice x 0 c)).run Tryd.prog w = .ok #[] w := by
  cases x <;> rfl

theorem Ints.zero {w : World} {a : Option Addr} {zs : List Int} (h : Ints w a 0 zs) : zs = [] := List.eq_nil_of_length_eq_zero h.1

def ivals (l : List Int) : List Value := l.map (Value.int .i64)

/-- Where there is an element the array is new. -/
def NewAt (w : World) (A : Option Addr) (n : Nat) : Prop := 0 < n → ∃ b o, A = some ⟨b, o, none⟩ ∧ w.heap.size ≤ b
theorem Ints.setCell {w : World} {A : Option Addr} {n : Nat} {zs : List Int} {w0 : World} (h : Ints w A n zs) (hn : NewAt w0 A n) {p : Addr} (hp : p.block < w0.heap.size) (v : Value) : Ints (w.setCell p v) A n zs :=
  ⟨h.1, h.2.1, fun j hj => by
    obtain ⟨b, o, e, hc⟩ := h.2.2 j hj
    obtain ⟨b', o', e', hb⟩ := hn (by omega)
    rw [e] at e'
    simp only [Option.some.injEq, Addr.mk.injEq, and_true] at e'
    refine ⟨b, o, e, ?_⟩
    rw [World.cell?_of_block (w := w) (Below.heap_setCell w p v b (by omega))]
    exact hc⟩
theorem run_append_ints (w : World) (ty b : Nat) (sa : Option Addr) (n c : Nat) (zs : List Int) (hx : Ints w sa n zs) (hn : n ≤ 8) :
    ∃ A cap w', (Builtin.append_ #[22, 22] ty #[.slice (some ⟨b, 0, none⟩) 0 0, .slice sa n c]).run Tryd.prog w = .ok (.slice A n cap) w' ∧ (Ints w' A n zs ∧ NewAt w A n) ∧ Below w.heap.size w w' := by
  obtain ⟨i, hi, hz0, hz1, hz2⟩ := info_parts info3
  rcases Nat.eq_zero_or_pos n with h0 | h0
  · subst h0
    have hsrc : Src Tryd.prog i.size 22 (.slice sa 0 c) 0 [] w := by
      rw [hz1]
      exact ⟨.inl ⟨3, Tryd.underlying22⟩, fun _ => rfl, firstCells_0 _ _ _, firstCells_0 _ _ _, rfl, fun u hu => by cases hu⟩
    have h := run_append_room_src (P := Tryd.prog) (w := w) 22 22 ty 3 i Tryd.underlying22 hi b 0 0 0 (.slice sa 0 c) 0 [] hsrc (by omega) (fun j hj => by simp at hj) (fun j hj => by simp at hj)
    refine ⟨some ⟨b, 0, none⟩, 0, w, h, ⟨?_, fun h => absurd h (by omega)⟩, Below.refl _ _⟩
    have := hx.zero
    subst this
    exact ⟨rfl, by omega, fun j hj => by omega⟩
  · obtain ⟨sb, so, rfl, _⟩ := hx.2.2 0 h0
    have hl := hx.1
    have hcells : ∀ j u, (ivals zs)[j]? = some u → w.cell? ((⟨sb, so, none⟩ : Addr).add j) = some u := by
      intro j u hu
      have hj : j < n := by
        have := (List.getElem?_eq_some_iff.1 hu).1
        simp [ivals] at this
        omega
      obtain ⟨b', o', e, hc⟩ := hx.2.2 j hj
      simp only [Option.some.injEq, Addr.mk.injEq, and_true] at e
      obtain ⟨rfl, rfl⟩ := e
      have hadd : (⟨sb, so, none⟩ : Addr).add j = ⟨sb, so + j, none⟩ := by unfold Addr.add; split <;> simp_all
      rw [hadd, hc]
      have hz : zs[j]? = some (zs[j]'(by omega)) := List.getElem?_eq_getElem (by omega)
      simp only [ivals, List.getElem?_map, hz, Option.map_some] at hu
      rw [hz, Option.getD_some]
      exact hu
    have hsrc : Src Tryd.prog i.size 22 (.slice (some ⟨sb, so, none⟩) n c) n (ivals zs) w := by
      rw [hz1]
      exact Src.ofSlice w Tryd.underlying22 _ n c (ivals zs) (by simp [ivals, hl]) hcells (fun u hu => by
        obtain ⟨_, _, rfl⟩ := List.mem_map.1 hu
        rfl)
    have hcap : Builtin.nextslicecap (0 + n) 0 * i.bytes ≤ 281474976710656 := by
      rw [hz2, Nat.zero_add]
      rcases nextslicecap_0 n with e | e <;> rw [e] <;> omega
    have h := run_append_grow_src (P := Tryd.prog) (w := w) 22 22 ty 3 i (.int .i64 0) Tryd.underlying22 hi hz0 (some ⟨b, 0, none⟩) 0 0 [] (by rw [hz1]; exact firstCells_0 _ _ _) (.slice (some ⟨sb, so, none⟩) n c) n (ivals zs) hsrc (by omega) (by omega) hcap
    rw [Nat.zero_add] at h
    refine ⟨_, _, _, h, ⟨⟨hl, by omega, fun j hj => ⟨w.heap.size, 0, rfl, ?_⟩⟩, fun _ => ⟨w.heap.size, 0, rfl, Nat.le_refl _⟩⟩, (Below.refl _ _).drew.alloc (Nat.le_refl _) _⟩
    have hz : zs[j]? = some (zs[j]'(by omega)) := List.getElem?_eq_getElem (by omega)
    have hnew := World.cell?_alloc_new (w := w.drew) (([] ++ ivals zs).toArray ++ Builtin.zeroCells (Value.int .i64 0).cells (grownCap w n 0 3 - n)) 3 (0 + j)
    rw [show w.drew.heap.size = w.heap.size from rfl] at hnew
    rw [hnew, hz, Option.getD_some, Nat.zero_add, List.nil_append, Array.getElem?_append_left (by simp [ivals]; omega)]
    simp [ivals, hz]

theorem wpList_append_ints {w : World} {ops : Array Oper} {rest : List Oper} {dst : Option Tmp} {ty : TypeId} {pos : String} {after : Array Edge} {a : Act} {Q : Exit → Act → World → Prop} {s x : Operand}
    {b : Nat} (hs : a.eval s = .slice (some ⟨b, 0, none⟩) 0 0) {sa : Option Addr} {n c : Nat} (hx : a.eval x = .slice sa n c) (zs : List Int) (hI : Ints w sa n zs) (hn : n ≤ 8)
    (hK : ∀ A cap w', (Ints w' A n zs ∧ NewAt w A n) → Below w.heap.size w w' → wpList Tryd.prog ops Q rest (a.put dst (.slice A n cap)) w') :
    wpList Tryd.prog ops Q ({ dst := dst, op := .call { callee := .builtin .append, args := #[s, x], argTypes := #[22, 22] }, type := ty, pos := pos, after := after, guard := none } :: rest) a w := by
  obtain ⟨A, cap, w', hrun, h1, h2⟩ := run_append_ints w ty b sa n c zs hI hn
  refine wpList_plain rfl fun K' hK' => ?_
  unfold Oper.wp
  simp [execOp, resolve, invoke, builtin, hs, hx, hrun, Result.andThen]
  exact hK' _ _ (hK A cap w' h1 h2)

theorem step_append_ints {w : World} {ops : Array Oper} {dst : Option Tmp} {ty : TypeId} {pos : String} {after : Array Edge} {a : Act} {K : Act → World → Prop} {Q : Exit → Act → World → Prop} {E : Prop} {s x : Operand}
    {b : Nat} (hs : a.eval s = .slice (some ⟨b, 0, none⟩) 0 0) {sa : Option Addr} {n c : Nat} (hx : a.eval x = .slice sa n c) (zs : List Int) (hI : Ints w sa n zs) (hn : n ≤ 8)
    (hK : ∀ A cap w', (Ints w' A n zs ∧ NewAt w A n) → Below w.heap.size w w' → K (a.put dst (.slice A n cap)) w') :
    if Region.wanted { dst := dst, op := .call { callee := .builtin .append, args := #[s, x], argTypes := #[22, 22] }, type := ty, pos := pos, after := after, guard := none } (yielded ops a.tmps) = true then
      Oper.wp Tryd.prog { dst := dst, op := .call { callee := .builtin .append, args := #[s, x], argTypes := #[22, 22] }, type := ty, pos := pos, after := after, guard := none } a w K Q else E := by
  obtain ⟨A, cap, w', hrun, h1, h2⟩ := run_append_ints w ty b sa n c zs hI hn
  rw [if_pos (by simp [Region.wanted])]
  unfold Oper.wp
  simp [execOp, resolve, invoke, builtin, hs, hx, hrun, Result.andThen]
  exact hK A cap w' h1 h2

theorem Ints.take {w : World} {a : Option Addr} {n : Nat} {zs : List Int} (h : Ints w a n zs) (m : Nat) (hm : m ≤ n) : Ints w a m (zs.take m) :=
  ⟨by rw [List.length_take, h.1]; omega, by have := h.2.1; omega, fun j hj => by
    obtain ⟨b, o, e, hc⟩ := h.2.2 j (by omega)
    exact ⟨b, o, e, by rw [hc, List.getElem?_take_of_lt hj]⟩⟩

theorem who4 (w : World) (o1 o2 o3 o4 : Obj) : Below w.heap.size w ((((w.alloc o1).alloc o2).alloc o3).alloc o4) :=
  ((((Below.refl _ _).alloc (Nat.le_refl _) _).alloc (by simp) _).alloc (by simp; omega) _).alloc (by simp; omega) _
theorem who_blks {w w4 : World} {c1 c2 c3 : List Value} {t1 t2 t3 : TypeId} {o4 : Obj}
    (hb : Below ((((w.alloc (.cells c1.toArray t1)).alloc (.cells c2.toArray t2)).alloc (.cells c3.toArray t3)).alloc o4).heap.size ((((w.alloc (.cells c1.toArray t1)).alloc (.cells c2.toArray t2)).alloc (.cells c3.toArray t3)).alloc o4) w4) :
    Blk w4 w.heap.size c1 t1 ∧ Blk w4 (w.heap.size + 1) c2 t2 ∧ Blk w4 (w.heap.size + 1 + 1) c3 t3 ∧ w.heap.size + 1 + 1 < w4.heap.size ∧ Below w.heap.size w w4 := by
  have hs := hb.size
  simp only [World.size_alloc] at hs
  refine ⟨((((Blk.new w c1 t1).alloc _).alloc _).alloc _).below hb (by simp only [World.size_alloc]; omega), ?_, ?_, by omega, bel_then (who4 w _ _ _ _) (by simp only [World.size_alloc]; omega) hb⟩
  · have h := (((Blk.new (w.alloc (.cells c1.toArray t1)) c2 t2).alloc (.cells c3.toArray t3)).alloc o4).below hb (by simp only [World.size_alloc]; omega)
    rwa [World.size_alloc] at h
  · have h := ((Blk.new ((w.alloc (.cells c1.toArray t1)).alloc (.cells c2.toArray t2)) c3 t3).alloc o4).below hb (by simp only [World.size_alloc]; omega)
    rwa [World.size_alloc, World.size_alloc] at h

theorem who_drew (w : World) (o : Obj) : Below w.heap.size w ((w.alloc o).drew) := ((Below.refl _ _).alloc (Nat.le_refl _) o).drew
theorem cell_below6 {B : Nat} {w w1 : World} {b o : Nat} (h : Below B w w1) (hb : b < B) : w1.cell? ⟨b, o, none⟩ = w.cell? ⟨b, o, none⟩ := h.cell (p := ⟨b, o, none⟩) hb
theorem who6 {w5 w6 : World} {X1 X2 X3 : Nat} {c1 c2 c3 : List Value} {t1 t2 t3 : TypeId} {o : Obj} (h1 : Blk w5 X1 c1 t1) (h2 : Blk w5 X2 c2 t2) (h3 : Blk w5 X3 c3 t3)
    (hb : Below ((w5.alloc o).drew).heap.size ((w5.alloc o).drew) w6) : Blk w6 X1 c1 t1 ∧ Blk w6 X2 c2 t2 ∧ Blk w6 X3 c3 t3 ∧ Below w5.heap.size w5 w6 := by
  have e : ((w5.alloc o).drew).heap.size = w5.heap.size + 1 := by show (w5.alloc o).heap.size = _; rw [World.size_alloc]
  have b1 := h1.lt
  have b2 := h2.lt
  have b3 := h3.lt
  exact ⟨(h1.alloc o).drew.below hb (by omega), (h2.alloc o).drew.below hb (by omega), (h3.alloc o).drew.below hb (by omega), bel_then (who_drew w5 o) (by omega) hb⟩
theorem cell_s1 (w : World) (X o o' : Nat) (v : Value) : (w.setCell ⟨X + 1, o, none⟩ v).cell? ⟨X, o', none⟩ = w.cell? ⟨X, o', none⟩ :=
  World.cell?_of_block (w := w) (Below.heap_setCell w ⟨X + 1, o, none⟩ v X (by simp))
theorem cell_s2 (w : World) (X o o' : Nat) (v : Value) : (w.setCell ⟨X + 1 + 1, o, none⟩ v).cell? ⟨X, o', none⟩ = w.cell? ⟨X, o', none⟩ :=
  World.cell?_of_block (w := w) (Below.heap_setCell w ⟨X + 1 + 1, o, none⟩ v X (by simp; omega))
theorem who_ints {w6 w0 : World} {A : Option Addr} {n X : Nat} {zs : List Int} (h : Ints w6 A n zs) (hn : NewAt w0 A n) (hX : X + 1 + 1 < w0.heap.size) (v1 v2 v3 v4 : Value) :
    Ints ((((w6.setCell ⟨X + 1, 0, none⟩ v1).setCell ⟨X + 1, 1, none⟩ v2).setCell ⟨X + 1 + 1, 0, none⟩ v3).setCell ⟨X + 1 + 1, 1, none⟩ v4) A n zs :=
  (((h.setCell hn (p := ⟨X + 1, 0, none⟩) (by show X + 1 < _; omega) v1).setCell hn (p := ⟨X + 1, 1, none⟩) (by show X + 1 < _; omega) v2).setCell hn (p := ⟨X + 1 + 1, 0, none⟩) hX v3).setCell hn (p := ⟨X + 1 + 1, 1, none⟩) hX v4
theorem who_end {w w6 : World} (h : Below w.heap.size w w6) (v1 v2 v3 v4 : Value) :
    Below w.heap.size w ((((w6.setCell ⟨w.heap.size + 1, 0, none⟩ v1).setCell ⟨w.heap.size + 1, 1, none⟩ v2).setCell ⟨w.heap.size + 1 + 1, 0, none⟩ v3).setCell ⟨w.heap.size + 1 + 1, 1, none⟩ v4) :=
  (((h.setCell (p := ⟨w.heap.size + 1, 0, none⟩) (Nat.le_succ _) v1).setCell (p := ⟨w.heap.size + 1, 1, none⟩) (Nat.le_succ _) v2).setCell (p := ⟨w.heap.size + 1 + 1, 0, none⟩) (by show _ ≤ _ + 1 + 1; omega) v3).setCell (p := ⟨w.heap.size + 1 + 1, 1, none⟩) (by show _ ≤ _ + 1 + 1; omega) v4
def WhoPost (u : Int) (k : Nat) (zs : List Int) (w : World) (e : Ending) (w' : World) : Prop :=
  ∃ A1 c1 A2 c2, e = .returned (.tuple #[.agg #[.int .i64 u, .slice A1 k c1], .agg #[.int .i64 u, .slice A2 k c2]]) ∧ Ints w' A1 k zs ∧ Ints w' A2 k zs ∧ Below w.heap.size w w' ∧ NewAt w A1 k ∧ NewAt w A2 k
theorem NewAt.mono {w w0 : World} {A : Option Addr} {n : Nat} (h : NewAt w0 A n) (hs : w.heap.size ≤ w0.heap.size) : NewAt w A n := fun hn => by
  obtain ⟨b, o, e, hb⟩ := h hn
  exact ⟨b, o, e, Nat.le_trans hs hb⟩

set_option maxHeartbeats 2000000 in
theorem who_calls (u : Int) (a : Option Addr) (n c : Nat) (gs : List Int) (w : World) (hx : Ints w a n gs) (hnc : n ≤ c) (hc : c ≤ 9223372036854775807) :
    Calls Tryd.prog 9 #[.agg #[.int .i64 u, .slice a n c]] w (WhoPost u (min n 8) (gs.take 8) w) := by
  have hI := hx.take (min n 8) (Nat.min_le_left _ _)
  have hg : gs.take (min n 8) = gs.take 8 := by
    rcases Nat.le_total n 8 with h | h
    · rw [Nat.min_eq_left h, List.take_of_length_le (by rw [hx.1]; exact Nat.le_refl _), List.take_of_length_le (by rw [hx.1]; exact h)]
    · rw [Nat.min_eq_right h]
  rw [hg] at hI
  obtain ⟨k, hk⟩ : ∃ k, k = min n 8 := ⟨_, rfl⟩
  have hk8 : k ≤ 8 := by omega
  have hkn : k ≤ n := by omega
  rw [← hk] at hI ⊢
  have HK := Lib.hid hk
  clear hk
  by_cases h8 : n ≤ 8
  · obtain rfl : n = k := by have := HK.out; omega
    have X1 := bel1 w (.cells #[.int .i64 u, .slice a n c] 24)
    go_enter Tryd.func9, Tryd.ntmps9
    go_upto_region 2 with (refine wpList_append_ints (by rfl) (by rfl) (gs.take 8) (hI.later (who4 w _ _ _ _)) hk8 ?_; intro A1 c1 w4 ⟨hI4, hN4⟩ hb4; obtain ⟨B0, B1, B2, hs4, hb4'⟩ := who_blks hb4; have HB0 := Lib.hid B0; have HB1 := Lib.hid B1; have HB2 := Lib.hid B2; have HB4 := Lib.hid hb4'; have q0 := B0.cell 0 rfl; have q1 := B0.cell 1 rfl; have f1 := B0.free 1; clear B0 B1 B2 hb4 hb4')
    obtain ⟨w5, hw5⟩ : ∃ w5, w5 = w4.setCell ⟨w.heap.size, 1, none⟩ (.slice A1 n c1) := ⟨_, rfl⟩
    rw [← hw5]
    have C0 := HB0.out.set 1 (.slice A1 n c1)
    have C1 := HB1.out.other (a := ⟨w.heap.size, 1, none⟩) (by simp) (.slice A1 n c1)
    have C2 := HB2.out.other (a := ⟨w.heap.size, 1, none⟩) (by simp; omega) (.slice A1 n c1)
    have C4 := HB4.out.setCell (p := ⟨w.heap.size, 1, none⟩) (Nat.le_refl _) (.slice A1 n c1)
    have CI := hI4.setCell hN4 (p := ⟨w.heap.size, 1, none⟩) (by simp; omega) (.slice A1 n c1)
    have CS : w.heap.size + 1 + 1 < (w4.setCell ⟨w.heap.size, 1, none⟩ (.slice A1 n c1)).heap.size := by rw [World.size_setCell]; exact hs4
    rw [← hw5] at C0 C1 C2 C4 CI CS
    have HN4 := Lib.hid hN4
    clear hw5 HB0 HB1 HB2 HB4 hI4 hN4 q0 q1 f1 hs4
    have q0 := C0.cell 0 rfl
    have q1 := C0.cell 1 rfl
    have D0 := Lib.hid C0
    have D1 := Lib.hid C1
    have D2 := Lib.hid C2
    have D4 := Lib.hid C4
    have DI := Lib.hid CI
    clear C0 C1 C2 C4 CI
    go_region_held3 (fun w' => w'.cell? ⟨w.heap.size, 0, none⟩ = some (.int .i64 u) ∧ w'.cell? ⟨w.heap.size, 1, none⟩ = some (.slice A1 n c1)) (first | (refine ⟨?_, ?_⟩ <;> (first | (with_reducible assumption) | (simp only [cell_s1, cell_s2]; with_reducible assumption))) | go_keep) ((refine step_append_ints (by rfl) (by rfl) (gs.take 8) (DI.out.later (who_drew _ _)) hk8 ?_; intro A2 c2 w6 HI6 hb6; obtain ⟨E0, E1, E2, E3⟩ := who6 D0.out D1.out D2.out hb6; have HB6 := Lib.hid hb6; have HI7 := Lib.hid HI6; have HE3 := Lib.hid E3; clear E3; have e0 := E0.cell 0 rfl; have e1 := E0.cell 1 rfl; have r0 := E1.cell 0 rfl; have r1 := E1.cell 1 rfl; have r2 := E2.cell 0 rfl; have r3 := E2.cell 1 rfl; have f0 := E1.free 0; have f1 := E1.free 1; have f2 := E2.free 0; have f3 := E2.free 1; clear hb6 HI6 E0 E1 E2))
    go_wp2
    refine bodyPost_ret (v := .tuple #[.agg #[.int .i64 u, .slice A2 n c2], .agg #[.int .i64 u, .slice A1 n c1]]) (by simp [results, Tryd.results9, go_sem, r0, r1, r2, r3, f0, f1, f2, f3]) rfl ?_
    have I1 := who_ints (X := w.heap.size) (DI.out.later HE3.out) HN4.out (by simp only [World.size_alloc]; omega) (.int .i64 u) (.slice A2 n c2) (.int .i64 u) (.slice A1 n c1)
    have I2 := who_ints (X := w.heap.size) HI7.out.1 HI7.out.2 (by show _ < (w5.alloc _).heap.size; rw [World.size_alloc]; omega) (.int .i64 u) (.slice A2 n c2) (.int .i64 u) (.slice A1 n c1)
    exact ⟨A2, c2, A1, c1, rfl, I2, I1, who_end (D4.out.trans (HE3.out.mono (by omega))) _ _ _ _, HI7.out.2.mono (by show _ ≤ (w5.alloc _).heap.size; rw [World.size_alloc]; omega), HN4.out.mono (by simp only [World.size_alloc]; omega)⟩
  · obtain rfl : 8 = k := by have := HK.out; omega
    have X1 := bel1 w (.cells #[.int .i64 u, .slice a n c] 24)
    go_enter Tryd.func9, Tryd.ntmps9
    go_upto_region 2 with (refine wpList_append_ints (by rfl) (by rfl) (gs.take 8) (hI.later (who4 w _ _ _ _)) hk8 ?_; intro A1 c1 w4 ⟨hI4, hN4⟩ hb4; obtain ⟨B0, B1, B2, hs4, hb4'⟩ := who_blks hb4; have HB0 := Lib.hid B0; have HB1 := Lib.hid B1; have HB2 := Lib.hid B2; have HB4 := Lib.hid hb4'; have q0 := B0.cell 0 rfl; have q1 := B0.cell 1 rfl; have f1 := B0.free 1; clear B0 B1 B2 hb4 hb4')
    obtain ⟨w5, hw5⟩ : ∃ w5, w5 = w4.setCell ⟨w.heap.size, 1, none⟩ (.slice A1 8 c1) := ⟨_, rfl⟩
    rw [← hw5]
    have C0 := HB0.out.set 1 (.slice A1 8 c1)
    have C1 := HB1.out.other (a := ⟨w.heap.size, 1, none⟩) (by simp) (.slice A1 8 c1)
    have C2 := HB2.out.other (a := ⟨w.heap.size, 1, none⟩) (by simp; omega) (.slice A1 8 c1)
    have C4 := HB4.out.setCell (p := ⟨w.heap.size, 1, none⟩) (Nat.le_refl _) (.slice A1 8 c1)
    have CI := hI4.setCell hN4 (p := ⟨w.heap.size, 1, none⟩) (by simp; omega) (.slice A1 8 c1)
    have CS : w.heap.size + 1 + 1 < (w4.setCell ⟨w.heap.size, 1, none⟩ (.slice A1 8 c1)).heap.size := by rw [World.size_setCell]; exact hs4
    rw [← hw5] at C0 C1 C2 C4 CI CS
    have HN4 := Lib.hid hN4
    clear hw5 HB0 HB1 HB2 HB4 hI4 hN4 q0 q1 f1 hs4
    have q0 := C0.cell 0 rfl
    have q1 := C0.cell 1 rfl
    have D0 := Lib.hid C0
    have D1 := Lib.hid C1
    have D2 := Lib.hid C2
    have D4 := Lib.hid C4
    have DI := Lib.hid CI
    clear C0 C1 C2 C4 CI
    go_region_held3 (fun w' => w'.cell? ⟨w.heap.size, 0, none⟩ = some (.int .i64 u) ∧ w'.cell? ⟨w.heap.size, 1, none⟩ = some (.slice A1 8 c1)) (first | (refine ⟨?_, ?_⟩ <;> (first | (with_reducible assumption) | (simp only [cell_s1, cell_s2]; with_reducible assumption))) | go_keep) ((refine step_append_ints (by rfl) (by rfl) (gs.take 8) (DI.out.later (who_drew _ _)) hk8 ?_; intro A2 c2 w6 HI6 hb6; obtain ⟨E0, E1, E2, E3⟩ := who6 D0.out D1.out D2.out hb6; have HB6 := Lib.hid hb6; have HI7 := Lib.hid HI6; have HE3 := Lib.hid E3; clear E3; have e0 := E0.cell 0 rfl; have e1 := E0.cell 1 rfl; have r0 := E1.cell 0 rfl; have r1 := E1.cell 1 rfl; have r2 := E2.cell 0 rfl; have r3 := E2.cell 1 rfl; have f0 := E1.free 0; have f1 := E1.free 1; have f2 := E2.free 0; have f3 := E2.free 1; clear hb6 HI6 E0 E1 E2))
    go_wp2
    refine bodyPost_ret (v := .tuple #[.agg #[.int .i64 u, .slice A2 8 c2], .agg #[.int .i64 u, .slice A1 8 c1]]) (by simp [results, Tryd.results9, go_sem, r0, r1, r2, r3, f0, f1, f2, f3]) rfl ?_
    have I1 := who_ints (X := w.heap.size) (DI.out.later HE3.out) HN4.out (by simp only [World.size_alloc]; omega) (.int .i64 u) (.slice A2 8 c2) (.int .i64 u) (.slice A1 8 c1)
    have I2 := who_ints (X := w.heap.size) HI7.out.1 HI7.out.2 (by show _ < (w5.alloc _).heap.size; rw [World.size_alloc]; omega) (.int .i64 u) (.slice A2 8 c2) (.int .i64 u) (.slice A1 8 c1)
    exact ⟨A2, c2, A1, c1, rfl, I2, I1, who_end (D4.out.trans (HE3.out.mono (by omega))) _ _ _ _, HI7.out.2.mono (by show _ ≤ (w5.alloc _).heap.size; rw [World.size_alloc]; omega), HN4.out.mono (by simp only [World.size_alloc]; omega)⟩

end Go.Proofs.YtkjmmpdmbdimoaaDoor
