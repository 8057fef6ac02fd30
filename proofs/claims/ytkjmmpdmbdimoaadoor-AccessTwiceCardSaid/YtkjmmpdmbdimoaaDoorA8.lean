/- The contract of Apply. -/
import Derived.Test.YtkjmmpdmbdimoaaDoorA7b
import Derived.Test.YtkjmmpdmbdimoaaDoorS3
import Derived.Test.YtkjmmpdmbdimoaaDoorA3
namespace Go.Proofs.YtkjmmpdmbdimoaaDoor
open Go.RowKit Go.Own

def ApplyPost (m : M) (L : List UInt8) (w : World) (e : Ending) (w' : World) : Prop :=
  Below w.heap.size w w' ∧ match parseC (L.length + 1) L with
    | none => ∃ j : Int, e = .returned (.tuple #[.int .i64 0, .int .i64 j, .int .i64 30])
    | some l => e = .returned (.tuple #[.int .i64 (val (applyAll m l)), .int .i64 0, .int .i64 0])

theorem slice_form {w : World} {base e size n : Nat} {v : Value} {xs : List Value} (h : w.ownsRow base e size v n xs) : (v = .slice none 0 0 ∧ n = 0) ∨ ∃ g cap, v = .slice (some ⟨g, 0, none⟩) n cap ∧ base ≤ g := by
  rcases h.2 with h | ⟨g, cap, _, h, hb, _⟩
  · exact .inl h
  · exact .inr ⟨g, cap, h, hb⟩

theorem cls_at (l : List Cl) (k : Nat) (hk : k < l.length) (j : Nat) : j < 5 → (clsCells l)[k * 5 + j]? = (clCells l[k])[j]? := by
  intro hj
  induction l generalizing k with
  | nil => simp at hk
  | cons c l ih =>
    have hlen : (clCells c).length = 5 := rfl
    cases k with
    | zero =>
      show (clCells c ++ clsCells l)[0 * 5 + j]? = _
      rw [Nat.zero_mul, Nat.zero_add, List.getElem?_append_left (by rw [hlen]; exact hj)]
      rfl
    | succ k =>
      show (clCells c ++ clsCells l)[(k + 1) * 5 + j]? = _
      rw [List.getElem?_append_right (by rw [hlen]; omega), hlen, show (k + 1) * 5 + j - 5 = k * 5 + j by omega]
      exact ih k (by simpa using hk)
theorem MapIs_at (w : World) (es : Array MapEntry) (c : Nat) {r : Nat} (h : r = w.heap.size) : MapIs (w.alloc (.map es c)) r es c := by
  subst h
  exact MapIs.new _ _ _
theorem sizes7 {a b c : Nat} (h : a < b) (k : b < c) : a < c ∧ a < c + 1 ∧ a < c + 1 + 1 ∧ a < c + 2 ∧ b < c + 1 ∧ b < c + 1 + 1 ∧ b < c + 2 := by omega
theorem cell_a3 {W : World} (o1 o2 o3 : Obj) {a : Addr} {v : Value} (h : W.cell? a = some v) : (((W.alloc o1).alloc o2).alloc o3).cell? a = some v := by
  have hlt := World.block_lt_of_cell? W a h
  rw [World.cell?_alloc_lt _ _ _ (by simp; omega), World.cell?_alloc_lt _ _ _ (by simp; omega), World.cell?_alloc_lt _ _ _ hlt]
  exact h
theorem fz_a3 {W : World} (o1 o2 o3 : Obj) {a : Addr} (hlt : a.block < W.heap.size) (h : W.frozen? a = false) : (((W.alloc o1).alloc o2).alloc o3).frozen? a = false := by
  have hb := (((Below.refl W.heap.size W).alloc (Nat.le_refl _) o1).alloc (by simp) o2).alloc (by simp; omega) o3
  rw [hb.frozen hlt]
  exact h
theorem new_a3 {W : World} (v : Value) {t : TypeId} (o2 o3 : Obj) : (((W.alloc (.cells #[v] t)).alloc o2).alloc o3).cell? ⟨W.heap.size, 0, none⟩ = some v := by
  have h := ((Blk.new W [v] t).alloc o2).alloc o3
  exact h.cell 0 rfl
theorem new2_a3 {W : World} (o1 : Obj) (v : Value) {t : TypeId} (o3 : Obj) : (((W.alloc o1).alloc (.cells #[v] t)).alloc o3).cell? ⟨W.heap.size + 1, 0, none⟩ = some v := by
  have h := (Blk.new (W.alloc o1) [v] t).alloc o3
  rw [World.size_alloc] at h
  exact h.cell 0 rfl
theorem round_world {w wr w2 : World} {C o1 o2 o3 : Obj} {v nv : Value} {g n cap : Nat} {xs : List Value} (hbel : Below w.heap.size w wr) (hb2 : Below (wr.alloc C).heap.size (wr.alloc C) w2) (hblk : Blk wr w.heap.size [v] 3)
    (hrow : wr.ownsRow (w.heap.size + 1) 63 5 (.slice (some ⟨g, 0, none⟩) n cap) n xs) (hg : w.heap.size + 1 ≤ g) :
    Below w.heap.size w ((((w2.setCell ⟨w.heap.size, 0, none⟩ nv).alloc o1).alloc o2).alloc o3) ∧ Blk ((((w2.setCell ⟨w.heap.size, 0, none⟩ nv).alloc o1).alloc o2).alloc o3) w.heap.size [nv] 3 ∧
      ((((w2.setCell ⟨w.heap.size, 0, none⟩ nv).alloc o1).alloc o2).alloc o3).ownsRow (w.heap.size + 1) 63 5 (.slice (some ⟨g, 0, none⟩) n cap) n xs := by
  have hlt := hblk.lt
  have hs2 := hb2.size
  have hsr : (wr.alloc C).heap.size = wr.heap.size + 1 := by simp
  have h2 : Below w.heap.size w w2 := bel_then (hbel.alloc hbel.size C) (by omega) hb2
  refine ⟨(((h2.setCell (p := ⟨w.heap.size, 0, none⟩) (Nat.le_refl _) _).alloc (by rw [World.size_setCell]; omega) _).alloc (by rw [World.size_alloc, World.size_setCell]; omega) _).alloc (by rw [World.size_alloc, World.size_alloc, World.size_setCell]; omega) _, ?_, ?_⟩
  · have hb : Blk w2 w.heap.size [v] 3 := (hblk.alloc C).below hb2 (by omega)
    exact (((hb.set 0 nv).alloc o1).alloc o2).alloc o3
  · refine (((ownsRow_setCell_other (own_later (hrow.alloc C) hb2) ?_ nv).alloc o1).alloc o2).alloc o3
    simp [Value.ownBlock]
    omega
theorem applyAll_take (m : M) (l : List Cl) (k : Nat) (hk : k < l.length) : applyAll m (l.take (k + 1)) = applyC (applyAll m (l.take k)) l[k] := by
  rw [List.take_succ_eq_append_getElem hk, applyAll_snoc]
theorem op_43 {op : UInt8} (h : (43 : Int) = ((op.toNat : Nat) : Int)) : op = 43 := eq_int 43 (by omega) h.symm
theorem op_45 {op : UInt8} (h : (45 : Int) = ((op.toNat : Nat) : Int)) : op = 45 := eq_int 45 (by omega) h.symm
theorem op_61 {op : UInt8} (h : (61 : Int) = ((op.toNat : Nat) : Int)) : op = 61 := eq_int 61 (by omega) h.symm
theorem applyC_43 (x : M) (c : Cl) (h : c.op = 43) : applyC x c = x ||| ownOf c := by simp [applyC, h]
theorem applyC_45 (x : M) (c : Cl) (h : c.op = 45) : applyC x c = x &&& ~~~(ownOf c) := by simp [applyC, h]
theorem applyC_61 (x : M) (c : Cl) (h : c.op = 61) : applyC x c = (x &&& ~~~(allOf c)) ||| ownOf c := by simp [applyC, h]
theorem row_form {w : World} {base e size n : Nat} {v : Value} {xs : List Value} (h : w.ownsRow base e size v n xs) (hn : 0 < n) : ∃ g cap, v = .slice (some ⟨g, 0, none⟩) n cap ∧ base ≤ g := by
  rcases slice_form h with ⟨_, h0⟩ | h
  · omega
  · exact h

set_option maxHeartbeats 8000000 in
theorem apply_calls (m : M) (s : ByteArray) (w : World) (hs : Shifts w) (hlen : s.size ≤ 100) :
    Calls Tryd.prog 13 #[.int .i64 (val m), .string s] w (ApplyPost m s.data.toList w) := by
  have hmm := @run_makeMap Tryd.prog
  have hv : validB (val m) = true := validB_iff.2 (val_range m)
  cases hp : parseC (s.data.toList.length + 1) s.data.toList with
  | none =>
    have HP := Lib.hid hp
    clear hp
    go_enter Tryd.func13, Tryd.ntmps13
    go_wp2_with (first | (go_at_call 23; refine (valid_calls _ _).mono ?_; rintro e w' ⟨rfl, rfl⟩) | (go_at_call 26; refine (clauses_calls s _ hlen).mono ?_; rintro e w1 ⟨hb1, h1⟩; rw [HP.out] at h1; obtain ⟨j, hj0, hj1, rfl⟩ := h1))
    go_ret3
    unfold ApplyPost
    rw [HP.out]
    exact ⟨bel_then (bel1 _ _) (by simp) hb1, j, rfl⟩
  | some l =>
    have HP := Lib.hid hp
    have HO := Lib.hid (parse_ops _ _ _ hp)
    have hn := parse_ne _ _ _ hp
    have hll : l.length ≤ 100 := by have := parse_len _ _ _ hp; rw [size_list] at this; omega
    clear hp
    go_enter Tryd.func13, Tryd.ntmps13
    go_wp2_with (first | (go_at_call 23; refine (valid_calls _ _).mono ?_; rintro e w' ⟨rfl, rfl⟩) | (go_at_call 26; refine (clauses_calls s _ hlen).mono ?_; rintro e w1 ⟨hb1, h1⟩; rw [HP.out] at h1; obtain ⟨v, rfl, hown⟩ := h1; obtain ⟨g, cap, rfl, hg⟩ := row_form hown hn; have HOW := Lib.hid hown; clear hown))
    have hbx := bel1 w (.cells #[.int .i64 (val m)] 3)
    have hsz1 : w.heap.size + 1 ≤ w1.heap.size := by have := hb1.size; simpa using this
    have hg1 : w.heap.size + 1 ≤ g := by simpa using hg
    go_loopw [32] (fun i wr => ∃ (k : Nat) (x : M), i = .int .i64 k ∧ k ≤ l.length ∧ Below w.heap.size w wr ∧ Hid (x = applyAll m (l.take k)) ∧ Hid (Blk wr w.heap.size [.int .i64 (val x)] 3) ∧ Hid (wr.ownsRow (w.heap.size + 1) 63 5 (.slice (some ⟨g, 0, none⟩) l.length cap) l.length (clsCells l))) (fun i _ => l.length - (intOf i).toNat)
    case atStart =>
      refine ⟨0, m, rfl, Nat.zero_le _, bel_then hbx (by simp) hb1, Lib.hid (by simp [applyAll]), ?_, ?_⟩
      · exact (Blk.new w [.int .i64 (val m)] 3).below hb1 (by simp)
      · have h := HOW.out
        rw [World.size_alloc] at h
        exact h
    case round =>
      obtain ⟨k, x, rfl, hk, hbel, hx, hblk, hrow⟩ := hrel
      by_cases hlt : k < l.length
      · have HL := Lib.hid hlt
        obtain ⟨hop, hle⟩ := HO.out l[k] (List.getElem_mem hlt)
        obtain ⟨c, hc⟩ : ∃ c, c = l[k] := ⟨_, rfl⟩
        have HCells : Hid (∀ j, j < 5 → wr.cell? ⟨g, k * 5 + j, none⟩ = (clCells l[k])[j]?) := fun j hj => (hrow.out.cellAt (k * 5 + j) (by have : (k + 1) * 5 ≤ l.length * 5 := Nat.mul_le_mul_right 5 hlt; omega)).trans (cls_at l k hlt j hj)
        rw [← hc] at hop hle HCells
        obtain ⟨b0, b1, b2, op, lets⟩ := c
        have HC := Lib.hid hc
        clear hc
        have q0 := HCells.out 0 (by omega)
        have q1 := HCells.out 1 (by omega)
        have q2 := HCells.out 2 (by omega)
        have q3 := HCells.out 3 (by omega)
        have q4 := HCells.out 4 (by omega)
        simp only [clCells, List.getElem?_cons_zero, List.getElem?_cons_succ, Nat.add_zero] at q0 q1 q2 q3 q4
        obtain ⟨sv, hsv⟩ : ∃ sv : ByteArray, sv = ⟨lets.toArray⟩ := ⟨_, rfl⟩
        rw [← hsv] at q4
        have hsvl : sv.data.toList = lets := by rw [hsv]
        have hsvz : sv.size ≤ 100 := by rw [← size_list, hsvl]; have : lets.length ≤ s.data.toList.length := hle; rw [size_list] at this; omega
        have HSV := Lib.hid hsvl
        clear hsv hsvl hle
        obtain ⟨opv, hopv⟩ : ∃ x : Int, x = ((op.toNat : Nat) : Int) := ⟨_, rfl⟩
        rw [← hopv] at q3
        have hszr : w.heap.size < wr.heap.size := hblk.out.lt
        have HOP := Lib.hid hop
        have HOV := Lib.hid hopv
        have hop3 : opv = 43 ∨ opv = 45 ∨ opv = 61 := by
          simp only [isOp, Bool.or_eq_true, beq_iff_eq] at hop
          rcases hop with (rfl | rfl) | rfl
          · exact .inl hopv
          · exact .inr (.inl hopv)
          · exact .inr (.inr hopv)
        clear hop hopv
        rcases hop3 with rfl | rfl | rfl
        · go_wp2_with (first | (go_at_call 27; refine (bits_any b0 b1 b2 op _ sv _ (hs.later (hbel.alloc hbel.size _)) hsvz).mono ?_; rintro e w2 ⟨rfl, hb2⟩; have hB0 := Lib.hid ((hblk.out.alloc (.cells #[.bool b0, .bool b1, .bool b2, .int .u8 43, .string sv] 63)).below hb2 (by simp; omega)); have hB1 := Lib.hid ((Blk.new wr [.bool b0, .bool b1, .bool b2, .int .u8 43, .string sv] 63).below hb2 (by simp)); have hc2 := hB0.out.cell 0 rfl; have hc3 := hB1.out.cell 3 rfl; have hf2 := hB0.out.free 0; have hsz2 : wr.heap.size < w2.heap.size := hB1.out.lt; have hsz0 := hB0.out.lt; obtain ⟨z1, z2, z3, z4, z5, z6, z7⟩ := sizes7 hszr hsz2; have HB2 := Lib.hid hb2; clear hb2) | (go_at_call 28; refine (plus_calls x _ _ _ _ (cell_a3 _ _ _ hc2) (new_a3 _ _ _) (fz_a3 _ _ _ hsz0 hf2)).mono ?_; rintro e w3 ⟨rfl, rfl⟩) | (at_lookup; refine wpList_lookup_found (i := 0) 5 1 (.int .u8) Tryd.underlying66 Tryd.underlying5 (by rfl) (MapIs_at _ _ _ (by simp)) (by rfl) (fun b => ckU8) (by rfl) ?_) | (refine wpList_insert_at 5 1 (.int .u8) Tryd.underlying66 Tryd.underlying5 (by rfl) (by simp) (by rfl) (by rfl) ckU8 (by rfl) ?_))
          go_roundw
          case rel =>
            have e : x ||| ownOf ⟨b0, b1, b2, op, sv.data.toList⟩ = applyAll m (l.take (k + 1)) := by
              rw [applyAll_take m l k HL.out, ← hx.out]
              exact (applyC_43 x ⟨b0, b1, b2, op, sv.data.toList⟩ (op_43 HOV.out)).symm.trans (congrArg (applyC x) (by rw [HSV.out]; exact HC.out))
            exact ⟨k + 1, x ||| ownOf ⟨b0, b1, b2, op, sv.data.toList⟩, by go_num, HL.out, (round_world hbel HB2.out hblk.out hrow.out hg1).1, Lib.hid e, (round_world hbel HB2.out hblk.out hrow.out hg1).2.1, (round_world hbel HB2.out hblk.out hrow.out hg1).2.2⟩
          case measure => simp [intOf]; have := HL.out; omega
        · go_wp2_with (first | (go_at_call 27; refine (bits_any b0 b1 b2 op _ sv _ (hs.later (hbel.alloc hbel.size _)) hsvz).mono ?_; rintro e w2 ⟨rfl, hb2⟩; have hB0 := Lib.hid ((hblk.out.alloc (.cells #[.bool b0, .bool b1, .bool b2, .int .u8 45, .string sv] 63)).below hb2 (by simp; omega)); have hB1 := Lib.hid ((Blk.new wr [.bool b0, .bool b1, .bool b2, .int .u8 45, .string sv] 63).below hb2 (by simp)); have hc2 := hB0.out.cell 0 rfl; have hc3 := hB1.out.cell 3 rfl; have hf2 := hB0.out.free 0; have hsz2 : wr.heap.size < w2.heap.size := hB1.out.lt; have hsz0 := hB0.out.lt; obtain ⟨z1, z2, z3, z4, z5, z6, z7⟩ := sizes7 hszr hsz2; have HB2 := Lib.hid hb2; clear hb2) | (go_at_call 29; refine (minus_calls x _ _ _ _ (cell_a3 _ _ _ hc2) (new_a3 _ _ _) (fz_a3 _ _ _ hsz0 hf2)).mono ?_; rintro e w3 ⟨rfl, rfl⟩) | (at_lookup; refine wpList_lookup_found (i := 1) 5 1 (.int .u8) Tryd.underlying66 Tryd.underlying5 (by rfl) (MapIs_at _ _ _ (by simp)) (by rfl) (fun b => ckU8) (by rfl) ?_) | (refine wpList_insert_at 5 1 (.int .u8) Tryd.underlying66 Tryd.underlying5 (by rfl) (by simp) (by rfl) (by rfl) ckU8 (by rfl) ?_))
          go_roundw
          case rel =>
            have e : x &&& ~~~(ownOf ⟨b0, b1, b2, op, sv.data.toList⟩) = applyAll m (l.take (k + 1)) := by
              rw [applyAll_take m l k HL.out, ← hx.out]
              exact (applyC_45 x ⟨b0, b1, b2, op, sv.data.toList⟩ (op_45 HOV.out)).symm.trans (congrArg (applyC x) (by rw [HSV.out]; exact HC.out))
            exact ⟨k + 1, x &&& ~~~(ownOf ⟨b0, b1, b2, op, sv.data.toList⟩), by go_num, HL.out, (round_world hbel HB2.out hblk.out hrow.out hg1).1, Lib.hid e, (round_world hbel HB2.out hblk.out hrow.out hg1).2.1, (round_world hbel HB2.out hblk.out hrow.out hg1).2.2⟩
          case measure => simp [intOf]; have := HL.out; omega
        · go_wp2_with (first | (go_at_call 27; refine (bits_any b0 b1 b2 op _ sv _ (hs.later (hbel.alloc hbel.size _)) hsvz).mono ?_; rintro e w2 ⟨rfl, hb2⟩; have hB0 := Lib.hid ((hblk.out.alloc (.cells #[.bool b0, .bool b1, .bool b2, .int .u8 61, .string sv] 63)).below hb2 (by simp; omega)); have hB1 := Lib.hid ((Blk.new wr [.bool b0, .bool b1, .bool b2, .int .u8 61, .string sv] 63).below hb2 (by simp)); have hc2 := hB0.out.cell 0 rfl; have hc3 := hB1.out.cell 3 rfl; have hf2 := hB0.out.free 0; have hsz2 : wr.heap.size < w2.heap.size := hB1.out.lt; have hsz0 := hB0.out.lt; obtain ⟨z1, z2, z3, z4, z5, z6, z7⟩ := sizes7 hszr hsz2; have HB2 := Lib.hid hb2; clear hb2) | (go_at_call 30; refine (set_calls x _ _ _ _ _ _ (cell_a3 _ _ _ hc2) (new2_a3 _ _ _) (new_a3 _ _ _) (fz_a3 _ _ _ hsz0 hf2)).mono ?_; rintro e w3 ⟨rfl, rfl⟩) | (at_lookup; refine wpList_lookup_found (i := 2) 5 1 (.int .u8) Tryd.underlying66 Tryd.underlying5 (by rfl) (MapIs_at _ _ _ (by simp)) (by rfl) (fun b => ckU8) (by rfl) ?_) | (refine wpList_insert_at 5 1 (.int .u8) Tryd.underlying66 Tryd.underlying5 (by rfl) (by simp) (by rfl) (by rfl) ckU8 (by rfl) ?_))
          go_roundw
          case rel =>
            have e : (x &&& ~~~(allOf ⟨b0, b1, b2, op, sv.data.toList⟩)) ||| ownOf ⟨b0, b1, b2, op, sv.data.toList⟩ = applyAll m (l.take (k + 1)) := by
              rw [applyAll_take m l k HL.out, ← hx.out]
              exact (applyC_61 x ⟨b0, b1, b2, op, sv.data.toList⟩ (op_61 HOV.out)).symm.trans (congrArg (applyC x) (by rw [HSV.out]; exact HC.out))
            exact ⟨k + 1, (x &&& ~~~(allOf ⟨b0, b1, b2, op, sv.data.toList⟩)) ||| ownOf ⟨b0, b1, b2, op, sv.data.toList⟩, by go_num, HL.out, (round_world hbel HB2.out hblk.out hrow.out hg1).1, Lib.hid e, (round_world hbel HB2.out hblk.out hrow.out hg1).2.1, (round_world hbel HB2.out hblk.out hrow.out hg1).2.2⟩
          case measure => simp [intOf]; have := HL.out; omega
      · have HK : Hid (k = l.length) := by show k = l.length; omega
        have hc := hblk.out.cell 0 rfl
        go_wp2_with fail
        go_ret3
        unfold ApplyPost
        rw [HP.out]
        refine ⟨hbel, ?_⟩
        have h := hx.out
        rw [HK.out, List.take_length] at h
        rw [h]
        rfl

end Go.Proofs.YtkjmmpdmbdimoaaDoor
