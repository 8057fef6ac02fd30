/- The contract of Text. -/
import Derived.Test.YtkjmmpdmbdimoaaDoorA2
import Derived.Test.YtkjmmpdmbdimoaaDoorW3
namespace Go.Proofs.YtkjmmpdmbdimoaaDoor
open Go.RowKit Go.Own

def baseB (i : Nat) : UInt8 := if i % 3 = 0 then 114 else if i % 3 = 1 then 119 else 120
def dashB (m : Int) (i : Nat) : Bool := bits .and .i64 (m / 2 ^ (8 - i)) 1 == 0
def tb (m : Int) (i : Nat) : UInt8 := if dashB m i = true then 45 else baseB i
theorem tb_dash {m : Int} {i : Nat} (h : dashB m i = true) : tb m i = 45 := if_pos h
theorem tb_base {m : Int} {i : Nat} (h : dashB m i = false) : tb m i = baseB i := if_neg (by rw [h]; exact Bool.false_ne_true)
def nine (m : Int) : List UInt8 := [tb m 0, tb m 1, tb m 2, tb m 3, tb m 4, tb m 5, tb m 6, tb m 7, tb m 8]
def textL (m : Int) : List UInt8 := ((nine m ++ (if 511 < m then [43] else [])) ++ (if (bits .and .i64 m 512 != 0) = true then [115] else [])) ++ (if (bits .and .i64 m 1024 != 0) = true then [116] else [])

theorem modify_alloc (w : World) (o : Obj) (f : Obj → Obj) : ({ w.alloc o with heap := (w.alloc o).heap.modify w.heap.size f } : World) = w.alloc (f o) := by
  show ({ w with heap := (w.heap.push o).modify w.heap.size f } : World) = { w with heap := w.heap.push (f o) }
  congr 1
  apply Array.ext_getElem?
  intro i
  rw [Array.getElem?_modify, Array.getElem?_push, Array.getElem?_push]
  by_cases e : w.heap.size = i
  · subst e; simp
  · have e' : ¬ i = w.heap.size := fun x => e x.symm
    simp [e, e']
theorem conv69 (w : World) (cs : Array Value) (h : cs.size = 9) : (convert 69 69 (.slice (some ⟨w.heap.size, 0, none⟩) 9 9)).run Tryd.prog (w.alloc (.cells cs 5)) = .ok (.slice (some ⟨w.heap.size, 0, none⟩) 9 9) (w.alloc (.cells cs 5 (9, 10))) := by
  have h1 := heap_alloc_new w (.cells cs 5)
  simp [convert, run_underlying Tryd.underlying69, run_underlying Tryd.underlying5, markStringish, Result.andThen]
  have hs : (w.alloc (.cells cs 5)).shape? w.heap.size = some (5, 9) := by unfold World.shape?; rw [h1]; simp [h]
  rw [hs]
  have hf : (w.alloc (.cells cs 5)).freeze ⟨w.heap.size, 9, none⟩ 1 = w.alloc (.cells cs 5 (9, 10)) := by
    unfold World.freeze
    rw [if_neg (by decide)]
    rw [modify_alloc]
    rfl
  have hr : (freeze ⟨w.heap.size, 9, none⟩ 1).run Tryd.prog (w.alloc (.cells cs 5)) = .ok () ((w.alloc (.cells cs 5)).freeze ⟨w.heap.size, 9, none⟩ 1) := rfl
  show (match (freeze ⟨w.heap.size, 9, none⟩ 1).run Tryd.prog (w.alloc (.cells cs 5)) with
    | Result.ok a w_1 => Result.ok (Value.slice (some { block := w.heap.size, off := 0 }) 9 9) w_1
    | Result.halt h w => Result.halt h w) = _
  rw [hr, hf]

/-- The block b holds these cells; what is frozen lies behind them. -/
def BlkM (w : World) (b : Nat) (cs : List Value) (t : TypeId) (lo hi : Nat) : Prop := w.heap[b]? = some (.cells cs.toArray t (lo, hi))
theorem BlkM.cell {w : World} {b : Nat} {cs : List Value} {t : TypeId} {lo hi : Nat} (h : BlkM w b cs t lo hi) (k : Nat) {v : Value} (hk : cs[k]? = some v) : w.cell? ⟨b, k, none⟩ = some v := by
  unfold BlkM at h
  simp [World.cell?, h, hk]
theorem BlkM.free {w : World} {b : Nat} {cs : List Value} {t : TypeId} {lo hi : Nat} (h : BlkM w b cs t lo hi) (k : Nat) (hk : k < lo) : w.frozen? ⟨b, k, none⟩ = false := by
  unfold BlkM at h
  simp [World.frozen?, h]
  omega
theorem BlkM.set {w : World} {b : Nat} {cs : List Value} {t : TypeId} {lo hi : Nat} (h : BlkM w b cs t lo hi) (k : Nat) (v : Value) : BlkM (w.setCell ⟨b, k, none⟩ v) b (cs.set k v) t lo hi := by
  unfold BlkM at *
  have hlt := lt_of_block h
  have h' : w.heap[b] = .cells cs.toArray t (lo, hi) := by simpa [Array.getElem?_eq_getElem hlt] using h
  show (w.heap.modify b _)[b]? = _
  rw [Array.getElem?_eq_getElem (by simpa using hlt), Array.getElem_modify_self, h']
  simp
theorem BlkM.new (w : World) (cs : List Value) (t : TypeId) (lo hi : Nat) : BlkM (w.alloc (.cells cs.toArray t (lo, hi))) w.heap.size cs t lo hi := heap_alloc_new w _


theorem tup2 {s t : ByteArray} (h : s = t) : Value.tuple #[.string s, .int .i64 0] = .tuple #[.string t, .int .i64 0] := by rw [h]
theorem app_one (l : List UInt8) (x : UInt8) : (⟨l.toArray⟩ : ByteArray) ++ ⟨#[x]⟩ = ⟨(l ++ [x]).toArray⟩ := ByteArray.mk_append_mk l [x]

set_option maxHeartbeats 8000000 in
theorem text_calls (m : Int) (w : World) (hv : validB m = true) :
    Calls Tryd.prog 20 #[.int .i64 m] w fun e w' => e = .returned (.tuple #[.string ⟨(textL m).toArray⟩, .int .i64 0]) ∧ Below w.heap.size w w' := by
  have HV := Lib.hid hv
  have hcv := fun w : World => conv69 w #[.int .u8 114, .int .u8 119, .int .u8 120, .int .u8 114, .int .u8 119, .int .u8 120, .int .u8 114, .int .u8 119, .int .u8 120] rfl
  go_enter Tryd.func20, Tryd.ntmps20
  go_wp2_with (go_at_call 23; refine (valid_calls _ _).mono ?_; rintro e w' ⟨rfl, rfl⟩)
  go_loopw [14] (fun i wr => Below w.heap.size w wr ∧ ((i = .int .i64 0 ∧ Hid (BlkM wr w.heap.size (bvals [114, 119, 120, 114, 119, 120, 114, 119, 120]) 5 9 10)) ∨ (i = .int .i64 1 ∧ Hid (BlkM wr w.heap.size (bvals [tb m 0, 119, 120, 114, 119, 120, 114, 119, 120]) 5 9 10)) ∨ (i = .int .i64 2 ∧ Hid (BlkM wr w.heap.size (bvals [tb m 0, tb m 1, 120, 114, 119, 120, 114, 119, 120]) 5 9 10)) ∨ (i = .int .i64 3 ∧ Hid (BlkM wr w.heap.size (bvals [tb m 0, tb m 1, tb m 2, 114, 119, 120, 114, 119, 120]) 5 9 10)) ∨ (i = .int .i64 4 ∧ Hid (BlkM wr w.heap.size (bvals [tb m 0, tb m 1, tb m 2, tb m 3, 119, 120, 114, 119, 120]) 5 9 10)) ∨ (i = .int .i64 5 ∧ Hid (BlkM wr w.heap.size (bvals [tb m 0, tb m 1, tb m 2, tb m 3, tb m 4, 120, 114, 119, 120]) 5 9 10)) ∨ (i = .int .i64 6 ∧ Hid (BlkM wr w.heap.size (bvals [tb m 0, tb m 1, tb m 2, tb m 3, tb m 4, tb m 5, 114, 119, 120]) 5 9 10)) ∨ (i = .int .i64 7 ∧ Hid (BlkM wr w.heap.size (bvals [tb m 0, tb m 1, tb m 2, tb m 3, tb m 4, tb m 5, tb m 6, 119, 120]) 5 9 10)) ∨ (i = .int .i64 8 ∧ Hid (BlkM wr w.heap.size (bvals [tb m 0, tb m 1, tb m 2, tb m 3, tb m 4, tb m 5, tb m 6, tb m 7, 120]) 5 9 10)) ∨ (i = .int .i64 9 ∧ Hid (BlkM wr w.heap.size (bvals [tb m 0, tb m 1, tb m 2, tb m 3, tb m 4, tb m 5, tb m 6, tb m 7, tb m 8]) 5 9 10)))) (fun i _ => 9 - (intOf i).toNat)
  case atStart => exact ⟨bel1 _ _, .inl ⟨rfl, BlkM.new w (bvals [114, 119, 120, 114, 119, 120, 114, 119, 120]) 5 9 10⟩⟩
  case round =>
    obtain ⟨hbel, hcase⟩ := hrel
    rcases hcase with ⟨rfl, hblk⟩ | ⟨rfl, hblk⟩ | ⟨rfl, hblk⟩ | ⟨rfl, hblk⟩ | ⟨rfl, hblk⟩ | ⟨rfl, hblk⟩ | ⟨rfl, hblk⟩ | ⟨rfl, hblk⟩ | ⟨rfl, hblk⟩ | ⟨rfl, hblk⟩
    · have q := hblk.out.cell 0 rfl
      have fr := hblk.out.free 0 (by omega)
      cases hd : (bits .and .i64 (m / 256) 1 == 0) with
      | true =>
        have HD : Hid (tb m 0 = 45) := tb_dash (by exact hd)
        go_wp2
        go_roundw
        case rel => exact ⟨hbel.setCell (p := ⟨w.heap.size, 0, none⟩) (Nat.le_refl _) _, .inr (.inl ⟨rfl, by have h := hblk.out.set 0 (.int .u8 45); have e := HD.out; show BlkM _ _ _ _ _ _; rw [e]; exact h⟩)⟩
        case measure => simp [intOf]
      | false =>
        have HD : Hid (tb m 0 = 114) := tb_base (by exact hd)
        go_wp2
        go_roundw
        case rel => exact ⟨hbel, .inr (.inl ⟨rfl, by have h := hblk.out; have e := HD.out; show BlkM _ _ _ _ _ _; rw [e]; exact h⟩)⟩
        case measure => simp [intOf]
    · have q := hblk.out.cell 1 rfl
      have fr := hblk.out.free 1 (by omega)
      cases hd : (bits .and .i64 (m / 128) 1 == 0) with
      | true =>
        have HD : Hid (tb m 1 = 45) := tb_dash (by exact hd)
        go_wp2
        go_roundw
        case rel => exact ⟨hbel.setCell (p := ⟨w.heap.size, 1, none⟩) (Nat.le_refl _) _, .inr (.inr (.inl ⟨rfl, by have h := hblk.out.set 1 (.int .u8 45); have e := HD.out; show BlkM _ _ _ _ _ _; rw [e]; exact h⟩))⟩
        case measure => simp [intOf]
      | false =>
        have HD : Hid (tb m 1 = 119) := tb_base (by exact hd)
        go_wp2
        go_roundw
        case rel => exact ⟨hbel, .inr (.inr (.inl ⟨rfl, by have h := hblk.out; have e := HD.out; show BlkM _ _ _ _ _ _; rw [e]; exact h⟩))⟩
        case measure => simp [intOf]
    · have q := hblk.out.cell 2 rfl
      have fr := hblk.out.free 2 (by omega)
      cases hd : (bits .and .i64 (m / 64) 1 == 0) with
      | true =>
        have HD : Hid (tb m 2 = 45) := tb_dash (by exact hd)
        go_wp2
        go_roundw
        case rel => exact ⟨hbel.setCell (p := ⟨w.heap.size, 2, none⟩) (Nat.le_refl _) _, .inr (.inr (.inr (.inl ⟨rfl, by have h := hblk.out.set 2 (.int .u8 45); have e := HD.out; show BlkM _ _ _ _ _ _; rw [e]; exact h⟩)))⟩
        case measure => simp [intOf]
      | false =>
        have HD : Hid (tb m 2 = 120) := tb_base (by exact hd)
        go_wp2
        go_roundw
        case rel => exact ⟨hbel, .inr (.inr (.inr (.inl ⟨rfl, by have h := hblk.out; have e := HD.out; show BlkM _ _ _ _ _ _; rw [e]; exact h⟩)))⟩
        case measure => simp [intOf]
    · have q := hblk.out.cell 3 rfl
      have fr := hblk.out.free 3 (by omega)
      cases hd : (bits .and .i64 (m / 32) 1 == 0) with
      | true =>
        have HD : Hid (tb m 3 = 45) := tb_dash (by exact hd)
        go_wp2
        go_roundw
        case rel => exact ⟨hbel.setCell (p := ⟨w.heap.size, 3, none⟩) (Nat.le_refl _) _, .inr (.inr (.inr (.inr (.inl ⟨rfl, by have h := hblk.out.set 3 (.int .u8 45); have e := HD.out; show BlkM _ _ _ _ _ _; rw [e]; exact h⟩))))⟩
        case measure => simp [intOf]
      | false =>
        have HD : Hid (tb m 3 = 114) := tb_base (by exact hd)
        go_wp2
        go_roundw
        case rel => exact ⟨hbel, .inr (.inr (.inr (.inr (.inl ⟨rfl, by have h := hblk.out; have e := HD.out; show BlkM _ _ _ _ _ _; rw [e]; exact h⟩))))⟩
        case measure => simp [intOf]
    · have q := hblk.out.cell 4 rfl
      have fr := hblk.out.free 4 (by omega)
      cases hd : (bits .and .i64 (m / 16) 1 == 0) with
      | true =>
        have HD : Hid (tb m 4 = 45) := tb_dash (by exact hd)
        go_wp2
        go_roundw
        case rel => exact ⟨hbel.setCell (p := ⟨w.heap.size, 4, none⟩) (Nat.le_refl _) _, .inr (.inr (.inr (.inr (.inr (.inl ⟨rfl, by have h := hblk.out.set 4 (.int .u8 45); have e := HD.out; show BlkM _ _ _ _ _ _; rw [e]; exact h⟩)))))⟩
        case measure => simp [intOf]
      | false =>
        have HD : Hid (tb m 4 = 119) := tb_base (by exact hd)
        go_wp2
        go_roundw
        case rel => exact ⟨hbel, .inr (.inr (.inr (.inr (.inr (.inl ⟨rfl, by have h := hblk.out; have e := HD.out; show BlkM _ _ _ _ _ _; rw [e]; exact h⟩)))))⟩
        case measure => simp [intOf]
    · have q := hblk.out.cell 5 rfl
      have fr := hblk.out.free 5 (by omega)
      cases hd : (bits .and .i64 (m / 8) 1 == 0) with
      | true =>
        have HD : Hid (tb m 5 = 45) := tb_dash (by exact hd)
        go_wp2
        go_roundw
        case rel => exact ⟨hbel.setCell (p := ⟨w.heap.size, 5, none⟩) (Nat.le_refl _) _, .inr (.inr (.inr (.inr (.inr (.inr (.inl ⟨rfl, by have h := hblk.out.set 5 (.int .u8 45); have e := HD.out; show BlkM _ _ _ _ _ _; rw [e]; exact h⟩))))))⟩
        case measure => simp [intOf]
      | false =>
        have HD : Hid (tb m 5 = 120) := tb_base (by exact hd)
        go_wp2
        go_roundw
        case rel => exact ⟨hbel, .inr (.inr (.inr (.inr (.inr (.inr (.inl ⟨rfl, by have h := hblk.out; have e := HD.out; show BlkM _ _ _ _ _ _; rw [e]; exact h⟩))))))⟩
        case measure => simp [intOf]
    · have q := hblk.out.cell 6 rfl
      have fr := hblk.out.free 6 (by omega)
      cases hd : (bits .and .i64 (m / 4) 1 == 0) with
      | true =>
        have HD : Hid (tb m 6 = 45) := tb_dash (by exact hd)
        go_wp2
        go_roundw
        case rel => exact ⟨hbel.setCell (p := ⟨w.heap.size, 6, none⟩) (Nat.le_refl _) _, .inr (.inr (.inr (.inr (.inr (.inr (.inr (.inl ⟨rfl, by have h := hblk.out.set 6 (.int .u8 45); have e := HD.out; show BlkM _ _ _ _ _ _; rw [e]; exact h⟩)))))))⟩
        case measure => simp [intOf]
      | false =>
        have HD : Hid (tb m 6 = 114) := tb_base (by exact hd)
        go_wp2
        go_roundw
        case rel => exact ⟨hbel, .inr (.inr (.inr (.inr (.inr (.inr (.inr (.inl ⟨rfl, by have h := hblk.out; have e := HD.out; show BlkM _ _ _ _ _ _; rw [e]; exact h⟩)))))))⟩
        case measure => simp [intOf]
    · have q := hblk.out.cell 7 rfl
      have fr := hblk.out.free 7 (by omega)
      cases hd : (bits .and .i64 (m / 2) 1 == 0) with
      | true =>
        have HD : Hid (tb m 7 = 45) := tb_dash (by exact hd)
        go_wp2
        go_roundw
        case rel => exact ⟨hbel.setCell (p := ⟨w.heap.size, 7, none⟩) (Nat.le_refl _) _, .inr (.inr (.inr (.inr (.inr (.inr (.inr (.inr (.inl ⟨rfl, by have h := hblk.out.set 7 (.int .u8 45); have e := HD.out; show BlkM _ _ _ _ _ _; rw [e]; exact h⟩))))))))⟩
        case measure => simp [intOf]
      | false =>
        have HD : Hid (tb m 7 = 119) := tb_base (by exact hd)
        go_wp2
        go_roundw
        case rel => exact ⟨hbel, .inr (.inr (.inr (.inr (.inr (.inr (.inr (.inr (.inl ⟨rfl, by have h := hblk.out; have e := HD.out; show BlkM _ _ _ _ _ _; rw [e]; exact h⟩))))))))⟩
        case measure => simp [intOf]
    · have q := hblk.out.cell 8 rfl
      have fr := hblk.out.free 8 (by omega)
      cases hd : (bits .and .i64 m 1 == 0) with
      | true =>
        have HD : Hid (tb m 8 = 45) := tb_dash (by have h := hd; rw [← Int.ediv_one m] at h; exact h)
        go_wp2
        go_roundw
        case rel => exact ⟨hbel.setCell (p := ⟨w.heap.size, 8, none⟩) (Nat.le_refl _) _, .inr (.inr (.inr (.inr (.inr (.inr (.inr (.inr (.inr (⟨rfl, by have h := hblk.out.set 8 (.int .u8 45); have e := HD.out; show BlkM _ _ _ _ _ _; rw [e]; exact h⟩)))))))))⟩
        case measure => simp [intOf]
      | false =>
        have HD : Hid (tb m 8 = 120) := tb_base (by have h := hd; rw [← Int.ediv_one m] at h; exact h)
        go_wp2
        go_roundw
        case rel => exact ⟨hbel, .inr (.inr (.inr (.inr (.inr (.inr (.inr (.inr (.inr (⟨rfl, by have h := hblk.out; have e := HD.out; show BlkM _ _ _ _ _ _; rw [e]; exact h⟩)))))))))⟩
        case measure => simp [intOf]
    · have hc := Lib.hid (fun j v (h : (bvals (nine m))[j]? = some v) => hblk.out.cell j h)
      by_cases h1 : 511 < m <;> cases h2 : (bits .and .i64 m 512 != 0) <;> cases h3 : (bits .and .i64 m 1024 != 0)
      all_goals
        have H := Lib.hid (And.intro h1 (And.intro h2 h3))
        go_wp2_with (refine wpList_conv 5 Tryd.underlying69 Tryd.underlying5 Tryd.underlying9 (by rfl) (nine m) (by rfl) hc.out ?_)
        go_ret2
        obtain ⟨a1, a2, a3⟩ := H.out
        refine ⟨congrArg Ending.returned (tup2 ?_), hbel⟩
        unfold textL
        first
          | rw [if_pos (show 511 < m by omega)]
          | rw [if_neg (show ¬ 511 < m by omega)]
        simp only [a2, a3, if_true, if_false, Bool.false_eq_true, List.append_nil]
        repeat rw [app_one]
        try rfl

end Go.Proofs.YtkjmmpdmbdimoaaDoor
