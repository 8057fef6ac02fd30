/- The contract of the bits of a clause. -/
import Derived.Test.YtkjmmpdmbdimoaaDoorA6
import Derived.Test.YtkjmmpdmbdimoaaDoorS2
import Derived.Test.YtkjmmpdmbdimoaaDoorW2
namespace Go.Proofs.YtkjmmpdmbdimoaaDoor
open Go.RowKit Go.Own

def letMap : Array MapEntry := #[⟨.int .u8 114, .int .i64 4, 0⟩, ⟨.int .u8 119, .int .i64 2, 1⟩, ⟨.int .u8 120, .int .i64 1, 2⟩]
theorem zero3 : ∀ w, (zeroValue 3).run Tryd.prog w = .ok (.int .i64 0) w := fun w => by kernel_rfl
theorem run_letter {W : World} {r : Nat} (h : MapIs W r letMap 3) (x : UInt8) : (Instr.lookup 75 (.map (some r)) (.int .u8 ((x.toNat : Nat) : Int)) false).run Tryd.prog W = .ok (.int .i64 (val (letBit x))) W := by
  by_cases h1 : x = 114
  · subst h1
    exact run_lookup_found Tryd.underlying75 Tryd.underlying5 h (fun _ => ckU8) (i := 0) (v := .int .i64 4) rfl false
  · by_cases h2 : x = 119
    · subst h2
      exact run_lookup_found Tryd.underlying75 Tryd.underlying5 h (fun _ => ckU8) (i := 1) (v := .int .i64 2) rfl false
    · by_cases h3 : x = 120
      · subst h3
        exact run_lookup_found Tryd.underlying75 Tryd.underlying5 h (fun _ => ckU8) (i := 2) (v := .int .i64 1) rfl false
      · have e1 := (byte_eq (b := x) 114 (by omega)).trans (beq_eq_false_iff_ne.2 h1)
        have e2 := (byte_eq (b := x) 119 (by omega)).trans (beq_eq_false_iff_ne.2 h2)
        have e3 := (byte_eq (b := x) 120 (by omega)).trans (beq_eq_false_iff_ne.2 h3)
        simp only [Int.cast_ofNat_Int] at e1 e2 e3
        have hf : Instr.findNow (.int .u8) (.int .u8 ((x.toNat : Nat) : Int)) letMap.toList 0 = some none := by simp [letMap, Instr.findNow, Instr.sameNow, e1, e2, e3]
        have h0 := run_lookup_none Tryd.underlying75 Tryd.underlying5 h (fun _ => ckU8) zero3 hf false
        rw [h0]
        simp [letBit, h1, h2, h3, val]

theorem size_list (s : ByteArray) : s.data.toList.length = s.size := by simp
theorem pw_drewN {B : Nat} {w W : World} (h : Below B w W) (n : Nat) : Below B w (W.drewN n) := ⟨h.os, h.tape, h.output, h.size, h.block⟩
theorem shl6 (x : UInt8) : val (letBit x <<< 6) = val (letBit x) * 64 := by
  unfold letBit; split
  · decide
  · split
    · decide
    · split <;> decide
theorem shl3 (x : UInt8) : val (letBit x <<< 3) = val (letBit x) * 8 := by
  unfold letBit; split
  · decide
  · split
    · decide
    · split <;> decide
theorem shl0 (x : UInt8) : val (letBit x <<< 0) = val (letBit x) := by rw [BitVec.shiftLeft_zero]
theorem or_step0 (X : M) (l : List UInt8) (m : Nat) (hm : m < l.length) {v : Int} (hv : val (letBit l[m]) = v) :
    bits .or .i64 (val (X ||| lb (l.take m))) v = val (X ||| lb (l.take (m + 1)) <<< 0) := by
  rw [← hv, val_or, List.take_succ_eq_append_getElem hm, lb_snoc, BitVec.shiftLeft_zero, BitVec.or_assoc]
theorem own_step0 (b0 b1 : Bool) (op : UInt8) (lets : List UInt8) (l : List UInt8) : ownC ⟨b0, b1, true, op, lets⟩ 2 ||| lb lets = ownC ⟨b0, b1, true, op, lets⟩ 3 := by
  have h : ownC ⟨b0, b1, true, op, lets⟩ 3 = ownC ⟨b0, b1, true, op, lets⟩ 2 ||| lb lets <<< 0 := rfl
  rw [h, BitVec.shiftLeft_zero]
theorem ownL_snoc (c : Cl) (l : List UInt8) (x : UInt8) : ownL c (l ++ [x]) = ownL c l ||| ((if x = 115 ∧ c.u = true then 512 else 0) ||| (if x = 116 ∧ c.o = true then 1024 else 0)) := by
  unfold ownL
  by_cases h1 : (115 : UInt8) ∈ l <;> by_cases h2 : (116 : UInt8) ∈ l <;> by_cases h3 : x = 115 <;> by_cases h4 : x = 116 <;> cases c.u <;> cases c.o <;> simp [h1, h2, h3, h4, eq_comm] <;> (try subst h3) <;> (try subst h4) <;> (try decide) <;> simp_all
theorem eq_int {b : UInt8} (n : Nat) (hn : n < 256) (h : ((b.toNat : Nat) : Int) = (n : Int)) : b = UInt8.ofNat n := by
  have h1 := byte_eq (b := b) n hn
  rw [h] at h1
  simpa using h1.symm
theorem ne_int {b : UInt8} (n : Nat) (hn : n < 256) (h : ¬((b.toNat : Nat) : Int) = (n : Int)) : b ≠ UInt8.ofNat n := by
  rintro rfl
  exact h (by rw [UInt8.toNat_ofNat_of_lt' (by simpa using hn)])
theorem lstep (c : Cl) (X : M) (l : List UInt8) (m : Nat) (hm : m < l.length) (d : M) (hd : ((if l[m] = 115 ∧ c.u = true then 512 else 0) ||| (if l[m] = 116 ∧ c.o = true then 1024 else 0) : M) = d) :
    (X ||| ownL c (l.take m)) ||| d = X ||| ownL c (l.take (m + 1)) := by
  rw [← hd, List.take_succ_eq_append_getElem hm, ownL_snoc, BitVec.or_assoc]
theorem lstep0 {c : Cl} {X : M} {l : List UInt8} {m : Nat} (hm : m < l.length) (h1 : ¬(l[m] = 115 ∧ c.u = true)) (h2 : ¬(l[m] = 116 ∧ c.o = true)) : val (X ||| ownL c (l.take m)) = val (X ||| ownL c (l.take (m + 1))) := by
  rw [← lstep c X l m hm 0 (by rw [if_neg h1, if_neg h2]; rfl)]
  exact congrArg val (BitVec.or_zero).symm
theorem lstepS {c : Cl} {X : M} {l : List UInt8} {m : Nat} (hm : m < l.length) (h1 : l[m] = 115) (hu : c.u = true) : bits .or .i64 (val (X ||| ownL c (l.take m))) 512 = val (X ||| ownL c (l.take (m + 1))) := by
  rw [← lstep c X l m hm 512 (by rw [if_pos ⟨h1, hu⟩, if_neg (fun h => absurd (h1.symm.trans h.1) (by decide))]; rfl)]
  exact val_or _ 512
theorem lstepT {c : Cl} {X : M} {l : List UInt8} {m : Nat} (hm : m < l.length) (h1 : l[m] = 116) (ho : c.o = true) : bits .or .i64 (val (X ||| ownL c (l.take m))) 1024 = val (X ||| ownL c (l.take (m + 1))) := by
  rw [← lstep c X l m hm 1024 (by rw [if_neg (fun h => absurd (h1.symm.trans h.1) (by decide)), if_pos ⟨h1, ho⟩]; rfl)]
  exact val_or _ 1024
theorem rS (b0 b1 b2 : Bool) (op : UInt8) (lets : List UInt8) {X : M} {l : List UInt8} {m : Nat} (hm : m < l.length) (x : UInt8) (hx : l[m] = x) (h : ((x.toNat : Nat) : Int) = 115) (hu : b0 = true) : bits .or .i64 (val (X ||| ownL ⟨b0, b1, b2, op, lets⟩ (l.take m))) 512 = val (X ||| ownL ⟨b0, b1, b2, op, lets⟩ (l.take (m + 1))) :=
  lstepS hm (hx.trans (eq_int 115 (by omega) h)) hu
theorem rT (b0 b1 b2 : Bool) (op : UInt8) (lets : List UInt8) {X : M} {l : List UInt8} {m : Nat} (hm : m < l.length) (x : UInt8) (hx : l[m] = x) (h : ((x.toNat : Nat) : Int) = 116) (ho : b2 = true) : bits .or .i64 (val (X ||| ownL ⟨b0, b1, b2, op, lets⟩ (l.take m))) 1024 = val (X ||| ownL ⟨b0, b1, b2, op, lets⟩ (l.take (m + 1))) :=
  lstepT hm (hx.trans (eq_int 116 (by omega) h)) ho
theorem rN (b0 b1 b2 : Bool) (op : UInt8) (lets : List UInt8) {X : M} {l : List UInt8} {m : Nat} (hm : m < l.length) (x : UInt8) (hx : l[m] = x) (h : ¬((x.toNat : Nat) : Int) = 115) (h' : ¬((x.toNat : Nat) : Int) = 116) : val (X ||| ownL ⟨b0, b1, b2, op, lets⟩ (l.take m)) = val (X ||| ownL ⟨b0, b1, b2, op, lets⟩ (l.take (m + 1))) :=
  lstep0 hm (fun q => ne_int 115 (by omega) h (hx.symm.trans q.1)) (fun q => ne_int 116 (by omega) h' (hx.symm.trans q.1))
theorem rNS (b0 b1 b2 : Bool) (op : UInt8) (lets : List UInt8) {X : M} {l : List UInt8} {m : Nat} (hm : m < l.length) (x : UInt8) (hx : l[m] = x) (h : ((x.toNat : Nat) : Int) = 115) (hu : b0 = false) : val (X ||| ownL ⟨b0, b1, b2, op, lets⟩ (l.take m)) = val (X ||| ownL ⟨b0, b1, b2, op, lets⟩ (l.take (m + 1))) :=
  lstep0 hm (fun q => Bool.false_ne_true (hu.symm.trans q.2)) (fun q => absurd (q.1.symm.trans (hx.trans (eq_int 115 (by omega) h))) (by decide))
theorem rNT (b0 b1 b2 : Bool) (op : UInt8) (lets : List UInt8) {X : M} {l : List UInt8} {m : Nat} (hm : m < l.length) (x : UInt8) (hx : l[m] = x) (h : ((x.toNat : Nat) : Int) = 116) (ho : b2 = false) : val (X ||| ownL ⟨b0, b1, b2, op, lets⟩ (l.take m)) = val (X ||| ownL ⟨b0, b1, b2, op, lets⟩ (l.take (m + 1))) :=
  lstep0 hm (fun q => absurd (q.1.symm.trans (hx.trans (eq_int 116 (by omega) h))) (by decide)) (fun q => Bool.false_ne_true (ho.symm.trans q.2))
theorem fin2 (b0 b1 b2 : Bool) (op : UInt8) (lets l : List UInt8) (hl : l = lets) {x y : Int} (hx : x = val (ownC ⟨b0, b1, b2, op, lets⟩ 3 ||| ownL ⟨b0, b1, b2, op, lets⟩ l)) (hy : y = val ((allC ⟨b0, b1, b2, op, lets⟩ 3 ||| (if b0 = true then 512 else 0)) ||| (if b2 = true then 1024 else 0))) :
    Value.tuple #[.int .i64 x, .int .i64 y] = .tuple #[.int .i64 (val (ownOf ⟨b0, b1, b2, op, lets⟩)), .int .i64 (val (allOf ⟨b0, b1, b2, op, lets⟩))] := by
  subst hl hx hy
  rfl
theorem fTT (X : M) {b0 b2 : Bool} (h0 : b0 = true) (h2 : b2 = true) : bits .or .i64 (bits .or .i64 (val X) 512) 1024 = val ((X ||| (if b0 = true then 512 else 0)) ||| (if b2 = true then 1024 else 0)) := by
  rw [if_pos h0, if_pos h2, show (512 : Int) = val 512 from rfl, show (1024 : Int) = val 1024 from rfl, val_or, val_or]
theorem fTF (X : M) {b0 b2 : Bool} (h0 : b0 = true) (h2 : b2 = false) : bits .or .i64 (val X) 512 = val ((X ||| (if b0 = true then 512 else 0)) ||| (if b2 = true then 1024 else 0)) := by
  subst h0 h2
  exact (val_or X 512).trans (congrArg val (BitVec.or_zero).symm)
theorem fFT (X : M) {b0 b2 : Bool} (h0 : b0 = false) (h2 : b2 = true) : bits .or .i64 (val X) 1024 = val ((X ||| (if b0 = true then 512 else 0)) ||| (if b2 = true then 1024 else 0)) := by
  subst h0 h2
  exact (val_or X 1024).trans (congrArg val (congrArg (· ||| (1024 : M)) (BitVec.or_zero).symm))
theorem fFF (X : M) {b0 b2 : Bool} (h0 : b0 = false) (h2 : b2 = false) : val X = val ((X ||| (if b0 = true then 512 else 0)) ||| (if b2 = true then 1024 else 0)) := by
  subst h0 h2
  exact congrArg val ((BitVec.or_zero).symm.trans (congrArg (· ||| (0 : M)) (BitVec.or_zero).symm))
theorem or_step (sh : Nat) (X : M) (l : List UInt8) (m : Nat) (hm : m < l.length) {v : Int} (hv : val (letBit l[m] <<< sh) = v) :
    bits .or .i64 (val (X ||| lb (l.take m) <<< sh)) v = val (X ||| lb (l.take (m + 1)) <<< sh) := by
  rw [← hv, val_or, List.take_succ_eq_append_getElem hm, lb_snoc, BitVec.shiftLeft_or_distrib, BitVec.or_assoc]
theorem allstep6 (X : M) : bits .or .i64 (val X) 448 = val (X ||| 7 <<< 6) := val_or X 448
theorem allstep3 (X : M) : bits .or .i64 (val X) 56 = val (X ||| 7 <<< 3) := val_or X 56
theorem allstep0 (X : M) : bits .or .i64 (val X) 7 = val (X ||| 7 <<< 0) := val_or X 7
theorem letBit_range (x : UInt8) : 0 ≤ val (letBit x) ∧ val (letBit x) ≤ 4 := by
  unfold letBit; split
  · decide
  · split
    · decide
    · split <;> decide

set_option maxHeartbeats 2000000 in
theorem bits_any (b0 b1 b2 : Bool) (op : UInt8) (op' : Int) (sv : ByteArray) (w : World) (hs : Shifts w) (hsz : sv.size ≤ 100) :
    Calls Tryd.prog 27 #[.agg #[.bool b0, .bool b1, .bool b2, .int .u8 op', .string sv]] w fun e w' => e = .returned (.tuple #[.int .i64 (val (ownOf ⟨b0, b1, b2, op, sv.data.toList⟩)), .int .i64 (val (allOf ⟨b0, b1, b2, op, sv.data.toList⟩))]) ∧ Below w.heap.size w w' := by
  obtain ⟨lets, hl⟩ : ∃ lets, lets = sv.data.toList := ⟨_, rfl⟩
  rw [← hl]
  have HSV : Hid (sv.data.toList = lets) := hl.symm
  clear hl
  have hmm := @run_makeMap Tryd.prog
  go_enter Tryd.func27, Tryd.ntmps27
  go_wp2_with (refine wpList_insert_at 5 3 (.int .u8) Tryd.underlying75 Tryd.underlying5 (by rfl) (by simp) (by rfl) (by rfl) ckU8 (by rfl) ?_)
  go_loopw [2, 3, 13] (fun o l i wr => ∃ k : Nat, k ≤ 3 ∧ i = .int .i64 k ∧ o = .int .i64 (val (ownC ⟨b0, b1, b2, op, lets⟩ k)) ∧ l = .int .i64 (val (allC ⟨b0, b1, b2, op, lets⟩ k)) ∧ Hid (Blk wr w.heap.size [.bool b0, .bool b1, .bool b2, .int .u8 op', .string sv] 63) ∧ Hid (MapIs wr (w.heap.size + 1) letMap 3) ∧ Hid (Shifts wr) ∧ Below w.heap.size w wr) (fun _ _ i _ => 3 - (intOf i).toNat)
  case atStart =>
    refine ⟨0, by omega, rfl, rfl, rfl, (Blk.new w [.bool b0, .bool b1, .bool b2, .int .u8 op', .string sv] 63).alloc _, ?_, (hs.later (bel1 _ _)).later (bel1 _ _), (bel1 _ _).alloc (by simp) _⟩
    have h := MapIs.new (w.alloc (.cells #[.bool b0, .bool b1, .bool b2, .int .u8 op', .string sv] 63)) letMap 3
    rw [World.size_alloc] at h
    exact h
  case round =>
    obtain ⟨k, hk, rfl, rfl, rfl, hblk, hmap, hsh, hbel⟩ := hrel
    have hk' : k = 0 ∨ k = 1 ∨ k = 2 ∨ k = 3 := by omega
    have s0 := hsh.out.2.1
    have s1 := hsh.out.2.2.1
    have s2 := hsh.out.2.2.2
    have i0 : ∀ w, (Instr.index 41 (.agg #[.bool b0, .bool b1, .bool b2]) (.int .i64 0)).run Tryd.prog w = .ok (.bool b0) w := fun _ => by kernel_rfl
    have i1 : ∀ w, (Instr.index 41 (.agg #[.bool b0, .bool b1, .bool b2]) (.int .i64 1)).run Tryd.prog w = .ok (.bool b1) w := fun _ => by kernel_rfl
    have i2 : ∀ w, (Instr.index 41 (.agg #[.bool b0, .bool b1, .bool b2]) (.int .i64 2)).run Tryd.prog w = .ok (.bool b2) w := fun _ => by kernel_rfl
    have q4 := hblk.out.cell 4 rfl
    rcases hk' with rfl | rfl | rfl | rfl
    · cases b0 with
      | false =>
        go_wp2
        go_roundw
        case rel => exact ⟨1, by omega, rfl, rfl, rfl, hblk, hmap, hsh, hbel⟩
        case measure => simp [intOf]
      | true =>
        go_wp2
        go_loopw [2, 28] (fun o i wr => ∃ m : Nat, m ≤ sv.size ∧ i = .int .i64 m ∧ o = .int .i64 (val (ownC ⟨true, b1, b2, op, lets⟩ 0 ||| (lb (sv.data.toList.take m) <<< 6))) ∧ Hid (Blk wr w.heap.size [.bool true, .bool b1, .bool b2, .int .u8 op', .string sv] 63) ∧ Hid (MapIs wr (w.heap.size + 1) letMap 3) ∧ Hid (Shifts wr) ∧ Below w.heap.size w wr) (fun _ i _ => sv.size - (intOf i).toNat)
        case atStart => exact ⟨0, by omega, rfl, by simp [lb], hblk, hmap, hsh, hbel⟩
        case round =>
          obtain ⟨m, hm, rfl, rfl, hblk2, hmap2, hsh2, hbel2⟩ := hrel
          clear s0 s1 s2 q4
          have t0 := hsh2.out.2.1
          have t1 := hsh2.out.2.2.1
          have t2 := hsh2.out.2.2.2
          have q4 := hblk2.out.cell 4 rfl
          by_cases hlt : m < sv.size
          · have HL := Lib.hid hlt
            have hlk := fun n => run_letter (hmap2.out.drewN n) sv[m]
            have hv := letBit_range sv[m]
            obtain ⟨vb, hvb⟩ : ∃ v, v = val (letBit sv[m]) := ⟨_, rfl⟩
            rw [← hvb] at hv hlk
            obtain ⟨hv0, hv1⟩ := hv
            have HV := Lib.hid hvb
            clear hvb
            go_wp2
            refine wp_region_quiet_lit (by kernel_rfl) (by kernel_rfl) ?_
            repeat (first | go_big_quiet_step (fail) | (refine wpQuiet_lookup (by rfl) (by rfl) (by rfl) (fun _ ⟨n, hn⟩ => hn ▸ hlk n) ?_; simp only [Act.put, List.setIfInBounds_toArray, List.set_cons_succ, List.set_cons_zero]))
            refine wpQuiet_nil ?_
            intro _ hw'
            obtain ⟨nq, hw''⟩ := hw'
            subst hw''
            go_wp2
            go_roundw
            case rel => exact ⟨m + 1, HL.out, by go_num, congrArg _ (or_step 6 _ sv.data.toList m (by simpa using HL.out) (by rw [HV.out]; exact shl6 _)), hblk2, hmap2, hsh2, pw_drewN hbel2 _⟩
            case measure => simp [intOf]; have := HL.out; omega
          · have HM : Hid (m = sv.size) := by show m = sv.size; omega
            go_wp2
            go_roundw
            case rel => exact ⟨1, by omega, rfl, congrArg _ (congrArg val (by have h := HM.out; subst h; rw [← size_list, List.take_length, HSV.out]; rfl)), congrArg _ (allstep6 _), hblk2, hmap2, hsh2, hbel2⟩
            case measure => simp [intOf]
    · cases b1 with
      | false =>
        go_wp2
        go_roundw
        case rel => exact ⟨2, by omega, rfl, rfl, rfl, hblk, hmap, hsh, hbel⟩
        case measure => simp [intOf]
      | true =>
        go_wp2
        go_loopw [2, 28] (fun o i wr => ∃ m : Nat, m ≤ sv.size ∧ i = .int .i64 m ∧ o = .int .i64 (val (ownC ⟨b0, true, b2, op, lets⟩ 1 ||| (lb (sv.data.toList.take m) <<< 3))) ∧ Hid (Blk wr w.heap.size [.bool b0, .bool true, .bool b2, .int .u8 op', .string sv] 63) ∧ Hid (MapIs wr (w.heap.size + 1) letMap 3) ∧ Hid (Shifts wr) ∧ Below w.heap.size w wr) (fun _ i _ => sv.size - (intOf i).toNat)
        case atStart => exact ⟨0, by omega, rfl, by simp [lb], hblk, hmap, hsh, hbel⟩
        case round =>
          obtain ⟨m, hm, rfl, rfl, hblk2, hmap2, hsh2, hbel2⟩ := hrel
          clear s0 s1 s2 q4
          have t0 := hsh2.out.2.1
          have t1 := hsh2.out.2.2.1
          have t2 := hsh2.out.2.2.2
          have q4 := hblk2.out.cell 4 rfl
          by_cases hlt : m < sv.size
          · have HL := Lib.hid hlt
            have hlk := fun n => run_letter (hmap2.out.drewN n) sv[m]
            have hv := letBit_range sv[m]
            obtain ⟨vb, hvb⟩ : ∃ v, v = val (letBit sv[m]) := ⟨_, rfl⟩
            rw [← hvb] at hv hlk
            obtain ⟨hv0, hv1⟩ := hv
            have HV := Lib.hid hvb
            clear hvb
            go_wp2
            refine wp_region_quiet_lit (by kernel_rfl) (by kernel_rfl) ?_
            repeat (first | go_big_quiet_step (fail) | (refine wpQuiet_lookup (by rfl) (by rfl) (by rfl) (fun _ ⟨n, hn⟩ => hn ▸ hlk n) ?_; simp only [Act.put, List.setIfInBounds_toArray, List.set_cons_succ, List.set_cons_zero]))
            refine wpQuiet_nil ?_
            intro _ hw'
            obtain ⟨nq, hw''⟩ := hw'
            subst hw''
            go_wp2
            go_roundw
            case rel => exact ⟨m + 1, HL.out, by go_num, congrArg _ (or_step 3 _ sv.data.toList m (by simpa using HL.out) (by rw [HV.out]; exact shl3 _)), hblk2, hmap2, hsh2, pw_drewN hbel2 _⟩
            case measure => simp [intOf]; have := HL.out; omega
          · have HM : Hid (m = sv.size) := by show m = sv.size; omega
            go_wp2
            go_roundw
            case rel => exact ⟨2, by omega, rfl, congrArg _ (congrArg val (by have h := HM.out; subst h; rw [← size_list, List.take_length, HSV.out]; rfl)), congrArg _ (allstep3 _), hblk2, hmap2, hsh2, hbel2⟩
            case measure => simp [intOf]
    · cases b2 with
      | false =>
        go_wp2
        go_roundw
        case rel => exact ⟨3, by omega, rfl, rfl, rfl, hblk, hmap, hsh, hbel⟩
        case measure => simp [intOf]
      | true =>
        go_wp2
        go_loopw [2, 28] (fun o i wr => ∃ m : Nat, m ≤ sv.size ∧ i = .int .i64 m ∧ o = .int .i64 (val (ownC ⟨b0, b1, true, op, lets⟩ 2 ||| (lb (sv.data.toList.take m) <<< 0))) ∧ Hid (Blk wr w.heap.size [.bool b0, .bool b1, .bool true, .int .u8 op', .string sv] 63) ∧ Hid (MapIs wr (w.heap.size + 1) letMap 3) ∧ Hid (Shifts wr) ∧ Below w.heap.size w wr) (fun _ i _ => sv.size - (intOf i).toNat)
        case atStart => exact ⟨0, by omega, rfl, by simp [lb], hblk, hmap, hsh, hbel⟩
        case round =>
          obtain ⟨m, hm, rfl, rfl, hblk2, hmap2, hsh2, hbel2⟩ := hrel
          clear s0 s1 s2 q4
          have t0 := hsh2.out.2.1
          have t1 := hsh2.out.2.2.1
          have t2 := hsh2.out.2.2.2
          have q4 := hblk2.out.cell 4 rfl
          by_cases hlt : m < sv.size
          · have HL := Lib.hid hlt
            have hlk := fun n => run_letter (hmap2.out.drewN n) sv[m]
            have hv := letBit_range sv[m]
            obtain ⟨vb, hvb⟩ : ∃ v, v = val (letBit sv[m]) := ⟨_, rfl⟩
            rw [← hvb] at hv hlk
            obtain ⟨hv0, hv1⟩ := hv
            have HV := Lib.hid hvb
            clear hvb
            go_wp2
            refine wp_region_quiet_lit (by kernel_rfl) (by kernel_rfl) ?_
            repeat (first | go_big_quiet_step (fail) | (refine wpQuiet_lookup (by rfl) (by rfl) (by rfl) (fun _ ⟨n, hn⟩ => hn ▸ hlk n) ?_; simp only [Act.put, List.setIfInBounds_toArray, List.set_cons_succ, List.set_cons_zero]))
            refine wpQuiet_nil ?_
            intro _ hw'
            obtain ⟨nq, hw''⟩ := hw'
            subst hw''
            go_wp2
            go_roundw
            case rel => exact ⟨m + 1, HL.out, by go_num, congrArg _ (or_step0 _ sv.data.toList m (by simpa using HL.out) (by rw [HV.out]; rfl)), hblk2, hmap2, hsh2, pw_drewN hbel2 _⟩
            case measure => simp [intOf]; have := HL.out; omega
          · have HM : Hid (m = sv.size) := by show m = sv.size; omega
            go_wp2
            go_roundw
            case rel => exact ⟨3, by omega, rfl, congrArg _ (congrArg val (by have h := HM.out; subst h; rw [← size_list, List.take_length, HSV.out]; first | rfl | exact own_step0 _ _ _ _ [])), congrArg _ (allstep0 _), hblk2, hmap2, hsh2, hbel2⟩
            case measure => simp [intOf]
    · clear s0 s1 s2
      rw [show Value.int IntKind.i64 ((3 : Nat) : Int) = Value.int IntKind.i64 3 from rfl]
      obtain ⟨al, hal⟩ : ∃ y, y = val (allC ⟨b0, b1, b2, op, lets⟩ 3) := ⟨_, rfl⟩
      obtain ⟨ow, how⟩ : ∃ y, y = val (ownC ⟨b0, b1, b2, op, lets⟩ 3) := ⟨_, rfl⟩
      rw [← hal, ← how]
      have HAL := Lib.hid hal
      have HOW := Lib.hid how
      clear hal how
      go_wp2
      go_loopw [2, 48] (fun o i wr => ∃ (m : Nat) (y : Int), m ≤ sv.size ∧ i = .int .i64 m ∧ o = .int .i64 y ∧ Hid (y = val (ownC ⟨b0, b1, b2, op, lets⟩ 3 ||| ownL ⟨b0, b1, b2, op, lets⟩ (sv.data.toList.take m))) ∧ Hid (Blk wr w.heap.size [.bool b0, .bool b1, .bool b2, .int .u8 op', .string sv] 63) ∧ Below w.heap.size w wr) (fun _ i _ => sv.size - (intOf i).toNat)
      case atStart => exact ⟨0, ow, by omega, rfl, rfl, Lib.hid (by rw [HOW.out]; exact congrArg val (by simp [ownL])), hblk, hbel⟩
      case round =>
        obtain ⟨m, y, hm, rfl, rfl, hy, hblk2, hbel2⟩ := hrel
        clear q4
        have q0 := hblk2.out.cell 0 rfl
        have q2 := hblk2.out.cell 2 rfl
        have q4 := hblk2.out.cell 4 rfl
        by_cases hlt : m < sv.size
        · have HL := Lib.hid hlt
          have hmL : m < sv.data.toList.length := by simpa using hlt
          have hbm : Hid (sv.data.toList[m] = sv[m]) := rfl
          go_wp2
          all_goals
            go_roundw
            case rel =>
              refine ⟨m + 1, _, HL.out, by go_num, rfl, Lib.hid ?_, hblk2, hbel2⟩
              rw [hy.out]
              first
                | (with_reducible exact rN b0 b1 b2 op lets hmL sv[m] hbm.out (by assumption) (by assumption))
                | (with_reducible exact rS b0 b1 b2 op lets hmL sv[m] hbm.out (by assumption) (by assumption))
                | (with_reducible exact rT b0 b1 b2 op lets hmL sv[m] hbm.out (by assumption) (by assumption))
                | (with_reducible exact rNS b0 b1 b2 op lets hmL sv[m] hbm.out (by assumption) (by assumption))
                | (with_reducible exact rNT b0 b1 b2 op lets hmL sv[m] hbm.out (by assumption) (by assumption))
            case measure => simp [intOf]; have := HL.out; omega
        · have HM : Hid (m = sv.size) := by show m = sv.size; omega
          go_wp2
          all_goals
            go_ret2
            refine ⟨congrArg Ending.returned (fin2 b0 b1 b2 op lets (sv.data.toList.take m) (by have h := HM.out; subst h; rw [← size_list, List.take_length, HSV.out]) hy.out ?_), hbel2⟩
            rw [HAL.out]
            first
              | (with_reducible exact fTT _ (by assumption) (by assumption))
              | (with_reducible exact fTF _ (by assumption) (by assumption))
              | (with_reducible exact fFT _ (by assumption) (by assumption))
              | (with_reducible exact fFF _ (by assumption) (by assumption))

end Go.Proofs.YtkjmmpdmbdimoaaDoor
