/- The contract of clauses. -/
import Derived.Test.YtkjmmpdmbdimoaaDoorA2
import Derived.Test.YtkjmmpdmbdimoaaDoorW1
import Derived.Test.YtkjmmpdmbdimoaaDoorS1
import Derived.Lib.Strings
namespace Go.Proofs.YtkjmmpdmbdimoaaDoor
open Go.RowKit Go.Own

theorem info63 : (Tryd.prog.info? 63).map (fun i => (i.zero, i.size, i.bytes)) = some (some (.agg #[.bool false, .bool false, .bool false, .int .u8 0, .string ⟨#[]⟩]), 5, 24) := by kernel_rfl
theorem zero41 : ∀ w, (zeroValue 41).run Tryd.prog w = .ok (.agg #[.bool false, .bool false, .bool false]) w := fun w => by kernel_rfl

theorem ckU8 {b : Bool} {n : Int} : ∀ w', (Instr.checkKey b 10000 5 (.int .u8 n)).run Tryd.prog w' = .ok () w' := fun _ => MapKept.run_checkKey Tryd.underlying5 (by simp [MapKept.IsKey]) _ 9999
/-- A clause as the cells of a struct. -/
def clCells (c : Cl) : List Value := [.bool c.u, .bool c.g, .bool c.o, .int .u8 c.op.toNat, .string ⟨c.lets.toArray⟩]
def clsCells (l : List Cl) : List Value := l.flatMap clCells
theorem clsCells_snoc (l : List Cl) (c : Cl) : clsCells (l ++ [c]) = clsCells l ++ clCells c := by simp [clsCells]

def ClausesPost (L : List UInt8) (w : World) (e : Ending) (w' : World) : Prop :=
  Below w.heap.size w w' ∧ match parseC (L.length + 1) L with
    | none => ∃ j : Int, 0 ≤ j ∧ j ≤ L.length ∧ e = .returned (.tuple #[.slice none 0 0, .int .i64 j, .bool false])
    | some l => ∃ v, e = .returned (.tuple #[v, .int .i64 0, .bool true]) ∧ w'.ownsRow w.heap.size 63 5 v l.length (clsCells l)

theorem find_cls (b : UInt8) (h : isCls b = true) : ∃ i, Instr.findNow (.int .u8) (.int .u8 (b.toNat : Int)) [⟨.int .u8 117, .agg #[.bool true, .bool false, .bool false], 0⟩, ⟨.int .u8 103, .agg #[.bool false, .bool true, .bool false], 1⟩, ⟨.int .u8 111, .agg #[.bool false, .bool false, .bool true], 2⟩, ⟨.int .u8 97, .agg #[.bool true, .bool true, .bool true], 3⟩] 0
    = some (some (i, .agg #[.bool (b == 117 || b == 97), .bool (b == 103 || b == 97), .bool (b == 111 || b == 97)])) := by
  simp only [isCls, Bool.or_eq_true, beq_iff_eq] at h
  rcases h with ((rfl | rfl) | rfl) | rfl
  · exact ⟨0, rfl⟩
  · exact ⟨1, rfl⟩
  · exact ⟨2, rfl⟩
  · exact ⟨3, rfl⟩
theorem find_nocls (b : UInt8) (h : isCls b = false) : Instr.findNow (.int .u8) (.int .u8 (b.toNat : Int)) [⟨.int .u8 117, .agg #[.bool true, .bool false, .bool false], 0⟩, ⟨.int .u8 103, .agg #[.bool false, .bool true, .bool false], 1⟩, ⟨.int .u8 111, .agg #[.bool false, .bool false, .bool true], 2⟩, ⟨.int .u8 97, .agg #[.bool true, .bool true, .bool true], 3⟩] 0 = some none := by
  simp only [isCls, Bool.or_eq_false_iff, beq_eq_false_iff_ne, ne_eq] at h
  obtain ⟨⟨⟨h1, h2⟩, h3⟩, h4⟩ := h
  have e : ∀ n : Nat, n < 256 → b ≠ UInt8.ofNat n → ((b.toNat : Int) == (n : Int)) = false := by
    intro n hn hne
    rw [beq_eq_false_iff_ne]
    intro hx
    apply hne
    apply UInt8.toNat_inj.1
    rw [UInt8.toNat_ofNat_of_lt' (by simpa using hn)]
    exact_mod_cast hx
  have e1 := e 117 (by omega) h1
  have e2 := e 103 (by omega) h2
  have e3 := e 111 (by omega) h3
  have e4 := e 97 (by omega) h4
  simp only [Int.cast_ofNat_Int] at e1 e2 e3 e4
  simp [Instr.findNow, Instr.sameNow, e1, e2, e3, e4]

theorem op_of {b : UInt8} {n : Nat} (h : (((b.toNat : Nat) : Int) != (n : Int)) = false) (hn : n = 43 ∨ n = 45 ∨ n = 61) : isOp b = true := by
  have h1 : ((b.toNat : Nat) : Int) = (n : Int) := by simpa using h
  have h2 : b.toNat = n := by exact_mod_cast h1
  have h3 : b = UInt8.ofNat n := by
    apply UInt8.toNat_inj.1
    rw [h2, UInt8.toNat_ofNat_of_lt' (by rcases hn with rfl | rfl | rfl <;> decide)]
  subst h3
  rcases hn with rfl | rfl | rfl <;> decide
theorem noop_of {b : UInt8} (h1 : (((b.toNat : Nat) : Int) != 43) = true) (h2 : (((b.toNat : Nat) : Int) != 45) = true) (h3 : (((b.toNat : Nat) : Int) != 61) = true) : isOp b = false := by
  simp only [bne_iff_ne, ne_eq] at h1 h2 h3
  simp only [isOp, Bool.or_eq_false_iff, beq_eq_false_iff_ne, ne_eq]
  refine ⟨⟨?_, ?_⟩, ?_⟩ <;> (rintro rfl; first | exact h1 rfl | exact h2 rfl | exact h3 rfl)

theorem byte_eq {b : UInt8} (n : Nat) (hn : n < 256) : (((b.toNat : Nat) : Int) == (n : Int)) = (b == UInt8.ofNat n) := by
  rw [Bool.eq_iff_iff, beq_iff_eq, beq_iff_eq, ← UInt8.toNat_inj, UInt8.toNat_ofNat_of_lt' (by simpa using hn)]
  exact Int.ofNat_inj
theorem let_eq {b : UInt8} (n : Nat) (h : ((b.toNat : Nat) : Int) = (n : Int)) (hn : n < 256) (hl : isLet (UInt8.ofNat n) = true) : isLet b = true := by
  have h1 := byte_eq (b := b) n hn
  rw [h] at h1
  have h2 : b = UInt8.ofNat n := by simpa using h1.symm
  rw [h2]; exact hl
theorem let_or {b : UInt8} (h : ((((((b.toNat : Nat) : Int) == 114) = true ∨ (((b.toNat : Nat) : Int) == 119) = true) ∨ (((b.toNat : Nat) : Int) == 120) = true) ∨ (((b.toNat : Nat) : Int) == 115) = true) ∨ (((b.toNat : Nat) : Int) == 116) = true) : isLet b = true := by
  simp only [isLet, Bool.or_eq_true]
  rcases h with (((h | h) | h) | h) | h
  · exact .inl (.inl (.inl (.inl ((byte_eq 114 (by omega)).symm.trans h))))
  · exact .inl (.inl (.inl (.inr ((byte_eq 119 (by omega)).symm.trans h))))
  · exact .inl (.inl (.inr ((byte_eq 120 (by omega)).symm.trans h)))
  · exact .inl (.inr ((byte_eq 115 (by omega)).symm.trans h))
  · exact .inr ((byte_eq 116 (by omega)).symm.trans h)
theorem nolet_and {b : UInt8} (h : ((((((b.toNat : Nat) : Int) == 114) = false ∧ (((b.toNat : Nat) : Int) == 119) = false) ∧ (((b.toNat : Nat) : Int) == 120) = false) ∧ (((b.toNat : Nat) : Int) == 115) = false) ∧ (((b.toNat : Nat) : Int) == 116) = false) : isLet b = false := by
  obtain ⟨⟨⟨⟨h1, h2⟩, h3⟩, h4⟩, h5⟩ := h
  simp only [isLet, Bool.or_eq_false_iff]
  exact ⟨⟨⟨⟨(byte_eq 114 (by omega)).symm.trans h1, (byte_eq 119 (by omega)).symm.trans h2⟩, (byte_eq 120 (by omega)).symm.trans h3⟩, (byte_eq 115 (by omega)).symm.trans h4⟩, (byte_eq 116 (by omega)).symm.trans h5⟩
theorem bytes_eq (x : ByteArray) (l : List UInt8) (h : x.data.toList = l) : x = ⟨l.toArray⟩ := by
  subst h
  rfl
theorem clauses_none {L : List UInt8} {w w' : World} (hb : Below w.heap.size w w') (hp : parseC (L.length + 1) L = none) (j : Nat) (hj : j ≤ L.length) : ClausesPost L w (.returned (.tuple #[.slice none 0 0, .int .i64 j, .bool false])) w' := by
  unfold ClausesPost
  rw [hp]
  exact ⟨hb, j, by omega, by omega, rfl⟩
theorem clauses_some {L : List UInt8} {w w' : World} (hb : Below w.heap.size w w') {l : List Cl} (hp : parseC (L.length + 1) L = some l) {v : Value} (hv : w'.ownsRow w.heap.size 63 5 v l.length (clsCells l)) : ClausesPost L w (.returned (.tuple #[v, .int .i64 0, .bool true])) w' := by
  unfold ClausesPost
  rw [hp]
  exact ⟨hb, v, rfl, hv⟩

/-- What holds behind the loop over the letters of the classes. -/
def AfterCls (L : List UInt8) (k j : Nat) (wo w' : World) : Prop :=
  Below wo.heap.size wo w' ∧ wo.heap.size < w'.heap.size ∧ Blk w' wo.heap.size [.bool (fU (seg L k j)), .bool (fG (seg L k j)), .bool (fO (seg L k j)), .int .u8 0, .string ⟨#[]⟩] 63 ∧
    (L.drop k).takeWhile isCls = seg L k j ∧ (L.drop k).dropWhile isCls = L.drop j
theorem below_up {A B : Nat} {w w1 w2 : World} (h : Below A w w1) (k : Below B w1 w2) (hAB : A ≤ B) : Below A w w2 := h.trans (k.mono hAB)

set_option maxHeartbeats 4000000 in
set_option maxRecDepth 100000 in
theorem clauses_calls (s : ByteArray) (w : World) (hs : s.size ≤ 100) :
    Calls Tryd.prog 26 #[.string s] w (ClausesPost s.data.toList w) := by
  have hmm := @run_makeMap Tryd.prog
  go_enter Tryd.func26, Tryd.ntmps26
  go_wp2
  go_loopw [2, 3] (fun v i wr => ∃ (acc : List Cl) (k f : Nat), i = .int .i64 k ∧ k ≤ s.size ∧ acc.length ≤ k ∧ Below w.heap.size w wr ∧ Hid (wr.ownsRow w.heap.size 63 5 v acc.length (clsCells acc)) ∧ Hid (s.size - k < f ∧ (parseC f (s.data.toList.drop k)).map (acc ++ ·) = parseC (s.data.toList.length + 1) s.data.toList)) (fun _ i _ => s.size + 1 - (intOf i).toNat)
  case atStart =>
    exact ⟨[], 0, s.size + 1, rfl, by omega, by simp, Below.refl _ _, World.ownsRow_nil _ _ _ _, by omega, by simp⟩
  case round =>
    obtain ⟨acc, k, f, rfl, hk, hacc, hbel, hown, hfin⟩ := hrel
    obtain ⟨wo, rfl⟩ : ∃ wo : World, wo = wr := ⟨_, rfl⟩
    have hszo : w.heap.size ≤ wo.heap.size := hbel.size
    go_upto_block 2 with fail
    go_cut [3] from 11 to 141 (fun i w' => ∃ j : Nat, i = .int .i64 j ∧ k ≤ j ∧ j ≤ s.size ∧ Hid (AfterCls s.data.toList k j wo w'))
    case first =>
      go_wp2_with fail
      go_loopw [3] (fun i wr => ∃ (j : Nat) (b0 b1 b2 : Bool), i = .int .i64 j ∧ k ≤ j ∧ j ≤ s.size ∧ Below wo.heap.size wo wr ∧ wo.heap.size < wr.heap.size ∧ Hid (Blk wr wo.heap.size [.bool b0, .bool b1, .bool b2, .int .u8 0, .string ⟨#[]⟩] 63) ∧
        Hid ((b0 = fU (seg s.data.toList k j) ∧ b1 = fG (seg s.data.toList k j) ∧ b2 = fO (seg s.data.toList k j)) ∧ ∀ i (h : i < s.data.toList.length), k ≤ i → i < j → isCls s.data.toList[i] = true)) (fun i _ => s.size - (intOf i).toNat)
      case atStart =>
        exact ⟨k, false, false, false, rfl, Nat.le_refl _, hk, bel1 _ _, by simp, Blk.new _ _ _, ⟨by simp [seg_self, fU, fG, fO], fun i h h1 h2 => absurd h2 (by omega)⟩⟩
      case round =>
        obtain ⟨j, b0, b1, b2, rfl, hkj, hj, hbel2, hsz2, hblk, hseg⟩ := hrel
        obtain ⟨w2, rfl⟩ : ∃ w2 : World, w2 = wr := ⟨_, rfl⟩
        by_cases hlt : j < s.size
        · cases hcls : isCls s[j] with
          | true =>
            obtain ⟨fi, hfind⟩ := find_cls s[j] hcls
            obtain ⟨y0, hy0⟩ : ∃ y, y = (s[j] == 117 || s[j] == 97) := ⟨_, rfl⟩
            obtain ⟨y1, hy1⟩ : ∃ y, y = (s[j] == 103 || s[j] == 97) := ⟨_, rfl⟩
            obtain ⟨y2, hy2⟩ : ∃ y, y = (s[j] == 111 || s[j] == 97) := ⟨_, rfl⟩
            rw [← hy0, ← hy1, ← hy2] at hfind
            have HF := Lib.hid hfind
            have HC := Lib.hid hcls
            have HY := Lib.hid (And.intro hy0 (And.intro hy1 hy2))
            clear hfind hcls hy0 hy1 hy2
            go_wp2_with (first | (refine wpList_insert_new 5 41 (.int .u8) Tryd.underlying73 Tryd.underlying5 (by rfl) (by rfl) (by rfl) ckU8 (by rfl) ?_) | (refine wpList_lookup_found 5 41 (.int .u8) Tryd.underlying73 Tryd.underlying5 (by rfl) (MapIs.new _ _ _) (by rfl) (fun b => ckU8) HF.out ?_))
            go_loopw [34] (fun i w3 => ∃ (m : Nat) (c0 c1 c2 : Bool), i = .int .i64 m ∧ m ≤ 3 ∧ Below wo.heap.size wo w3 ∧ w2.heap.size + 1 < w3.heap.size ∧ Hid (Blk w3 wo.heap.size [.bool c0, .bool c1, .bool c2, .int .u8 0, .string ⟨#[]⟩] 63) ∧ Hid (Blk w3 (w2.heap.size + 1) [.bool y0, .bool y1, .bool y2] 41) ∧
              Hid (c0 = (if 0 < m then (b0 || y0) else b0) ∧ c1 = (if 1 < m then (b1 || y1) else b1) ∧ c2 = (if 2 < m then (b2 || y2) else b2))) (fun i _ => 3 - (intOf i).toNat)
            case atStart =>
              refine ⟨0, b0, b1, b2, rfl, by omega, (hbel2.alloc hbel2.size _).alloc (by simp; omega) _, by simp, ((hblk.out.alloc _).alloc _), ?_, ⟨rfl, rfl, rfl⟩⟩
              have h := Blk.new (w2.alloc (Obj.map #[⟨.int .u8 117, .agg #[.bool true, .bool false, .bool false], 0⟩, ⟨.int .u8 103, .agg #[.bool false, .bool true, .bool false], 1⟩, ⟨.int .u8 111, .agg #[.bool false, .bool false, .bool true], 2⟩, ⟨.int .u8 97, .agg #[.bool true, .bool true, .bool true], 3⟩] 4)) [.bool y0, .bool y1, .bool y2] 41
              rw [World.size_alloc] at h
              exact h
            case round =>
              obtain ⟨m, c0, c1, c2, rfl, hm, hbel3, hsz3, hblk3, hy3, hc3⟩ := hrel
              have hm' : m = 0 ∨ m = 1 ∨ m = 2 ∨ m = 3 := by omega
              have q0 := hblk3.out.cell 0 rfl
              have q1 := hblk3.out.cell 1 rfl
              have q2 := hblk3.out.cell 2 rfl
              have z0 := hy3.out.cell 0 rfl
              have z1 := hy3.out.cell 1 rfl
              have z2 := hy3.out.cell 2 rfl
              have fr0 := hblk3.out.free 0
              have fr1 := hblk3.out.free 1
              have fr2 := hblk3.out.free 2
              have hne : Hid (w2.heap.size + 1 ≠ wo.heap.size) := by show _ ≠ _; omega
              have hwo : Hid (wo.heap.size ≤ wo.heap.size) := Nat.le_refl _
              rcases hm' with rfl | rfl | rfl | rfl
              · obtain ⟨e0, e1, e2⟩ := hc3.out
                cases c0
                all_goals
                  have E := Lib.hid (And.intro e0 (And.intro e1 e2))
                  clear e0 e1 e2
                  go_wp2
                  go_roundw
                  case rel => exact ⟨1, _, c1, c2, rfl, by omega, hbel3.setCell (p := ⟨wo.heap.size, 0, none⟩) hwo.out _, by simp [World.setCell]; omega, hblk3.out.set 0 _, hy3.out.other (a := ⟨wo.heap.size, 0, none⟩) hne.out _, Lib.hid (by have h := E.out; simp at h; simp [h])⟩
                  case measure => simp [intOf]
              · obtain ⟨e0, e1, e2⟩ := hc3.out
                cases c1
                all_goals
                  have E := Lib.hid (And.intro e0 (And.intro e1 e2))
                  clear e0 e1 e2
                  go_wp2
                  go_roundw
                  case rel => exact ⟨2, c0, _, c2, rfl, by omega, hbel3.setCell (p := ⟨wo.heap.size, 1, none⟩) hwo.out _, by simp [World.setCell]; omega, hblk3.out.set 1 _, hy3.out.other (a := ⟨wo.heap.size, 1, none⟩) hne.out _, Lib.hid (by have h := E.out; simp at h; simp [h])⟩
                  case measure => simp [intOf]
              · obtain ⟨e0, e1, e2⟩ := hc3.out
                cases c2
                all_goals
                  have E := Lib.hid (And.intro e0 (And.intro e1 e2))
                  clear e0 e1 e2
                  go_wp2
                  go_roundw
                  case rel => exact ⟨3, c0, c1, _, rfl, by omega, hbel3.setCell (p := ⟨wo.heap.size, 2, none⟩) hwo.out _, by simp [World.setCell]; omega, hblk3.out.set 2 _, hy3.out.other (a := ⟨wo.heap.size, 2, none⟩) hne.out _, Lib.hid (by have h := E.out; simp at h; simp [h])⟩
                  case measure => simp [intOf]
              · have HL := Lib.hid hlt
                go_wp2
                go_roundw
                case rel =>
                  obtain ⟨e0, e1, e2⟩ := hc3.out
                  obtain ⟨g0, g1, g2⟩ := HY.out
                  obtain ⟨⟨f0, f1, f2⟩, hall⟩ := hseg.out
                  have hl : j < s.data.toList.length := by have := HL.out; simpa using this
                  have hb : s.data.toList[j] = s[j]'HL.out := rfl
                  refine ⟨j + 1, c0, c1, c2, by go_num, by omega, HL.out, hbel3, by omega, hblk3, Lib.hid ⟨?_, ?_⟩⟩
                  · rw [seg_snoc _ _ _ hkj hl, fU_snoc, fG_snoc, fO_snoc, hb, ← f0, ← f1, ← f2, ← g0, ← g1, ← g2]
                    simpa using And.intro e0 (And.intro e1 e2)
                  · intro i h h1 h2
                    by_cases e : i = j
                    · subst e; rw [hb]; exact HC.out
                    · exact hall i h h1 (by omega)
                case measure => simp [intOf]; have := HL.out; omega
          | false =>
            have HF := Lib.hid (find_nocls s[j] hcls)
            have HC := Lib.hid hcls
            have HL := Lib.hid hlt
            clear hcls
            go_wp2_with (first | (refine wpList_insert_new 5 41 (.int .u8) Tryd.underlying73 Tryd.underlying5 (by rfl) (by rfl) (by rfl) ckU8 (by rfl) ?_) | (refine wpList_lookup_none 5 41 (.int .u8) Tryd.underlying73 Tryd.underlying5 (by rfl) (MapIs.new _ _ _) (by rfl) (fun b => ckU8) _ zero41 HF.out ?_))
            go_meet
            case rel =>
              obtain ⟨⟨f0, f1, f2⟩, hall⟩ := hseg.out
              have hl : j < s.data.toList.length := by have := HL.out; simpa using this
              have hw := seg_while isCls s.data.toList k j hkj (by omega) hall (fun _ => HC.out)
              refine ⟨j, rfl, hkj, hj, Lib.hid ⟨(hbel2.alloc hbel2.size _).alloc (by simp; omega) _, by simp; omega, ?_, hw.1, hw.2⟩⟩
              rw [← f0, ← f1, ← f2]
              exact (hblk.out.alloc _).alloc _
        · have HJ : Hid (j = s.size) := by show j = s.size; omega
          go_wp2
          go_meet
          case rel =>
            obtain ⟨⟨f0, f1, f2⟩, hall⟩ := hseg.out
            have hl : j = s.data.toList.length := by have := HJ.out; simpa using this
            have hw := seg_while isCls s.data.toList k j hkj (by omega) hall (fun h => absurd h (by omega))
            refine ⟨j, rfl, hkj, hj, Lib.hid ⟨hbel2, hsz2, ?_, hw.1, hw.2⟩⟩
            rw [← f0, ← f1, ← f2]
            exact hblk.out
    case rest =>
      obtain ⟨j, rfl, hkj, hj, haft⟩ := hcut
      obtain ⟨bad, hbad⟩ : ∃ b : Bool, b = badAt s.data.toList k j := ⟨_, rfl⟩
      have HB := Lib.hid hbad
      clear hbad
      go_upto_region 13 with fail
      go_cut [76] from 11 to 141 (fun t w' => t = .bool bad ∧ w' = wc)
      case first =>
        by_cases hkj' : k = j
        · subst hkj'
          go_wp2
          go_meet
          case rel => exact ⟨by rw [HB.out, badAt]; simp, rfl⟩
        · have tkj : (((j : Nat) : Int) == ((k : Nat) : Int)) = false := by rw [beq_eq_false_iff_ne]; omega
          have HK := Lib.hid hkj'
          clear hkj'
          by_cases hlt : j < s.size
          · have tjn : (((j : Nat) : Int) == ((s.size : Nat) : Int)) = false := by rw [beq_eq_false_iff_ne]; omega
            have hidx : s.data.toList[j]? = some s[j] := by rw [List.getElem?_eq_getElem (by simpa using hlt)]; rfl
            have HI := Lib.hid hidx
            clear hidx
            cases b1 : (((s[j].toNat : Nat) : Int) != 43) with
            | false =>
              have B1 := Lib.hid b1
              go_wp2
              go_meet
              case rel => exact ⟨by rw [HB.out, badAt, HI.out]; have h := op_of (n := 43) B1.out (by simp); have hk := HK.out; simp [h, hk], rfl⟩
            | true =>
              cases b2 : (((s[j].toNat : Nat) : Int) != 45) with
              | false =>
                have B2 := Lib.hid b2
                go_wp2
                go_meet
                case rel => exact ⟨by rw [HB.out, badAt, HI.out]; have h := op_of (n := 45) B2.out (by simp); have hk := HK.out; simp [h, hk], rfl⟩
              | true =>
                cases b3 : (((s[j].toNat : Nat) : Int) != 61) with
                | false =>
                  have B3 := Lib.hid b3
                  go_wp2
                  go_meet
                  case rel => exact ⟨by rw [HB.out, badAt, HI.out]; have h := op_of (n := 61) B3.out (by simp); have hk := HK.out; simp [h, hk], rfl⟩
                | true =>
                  have B := Lib.hid (And.intro b1 (And.intro b2 b3))
                  go_wp2
                  go_meet
                  case rel => exact ⟨by rw [HB.out, badAt, HI.out]; have h := noop_of B.out.1 B.out.2.1 B.out.2.2; simp [h], rfl⟩
          · have HJ : Hid (j = s.size) := by show j = s.size; omega
            have tjn : (((j : Nat) : Int) == ((s.size : Nat) : Int)) = true := by rw [beq_iff_eq]; omega
            clear hlt
            go_wp2
            go_meet
            case rel => exact ⟨by rw [HB.out, badAt, List.getElem?_eq_none (by have := HJ.out; simp; omega)]; simp, rfl⟩
      case rest =>
        obtain ⟨rfl, rfl⟩ := hcut
        cases bad with
        | true =>
          go_wp2
          go_ret3
          obtain ⟨h1, h2, h3, h4, h5⟩ := haft.out
          have hp := parse_bad f (by simpa using hj) h4 h5 HB.out.symm
          exact clauses_none (below_up hbel h1 hszo) (by have h := hfin.out.2; rw [hp] at h; exact h.symm) j (by simpa using hj)
        | false =>
          have hgood := Lib.hid (good_at HB.out.symm)
          have hjl : j < s.size := by obtain ⟨_, h, _⟩ := hgood.out; simpa using h
          have hblk := Lib.hid haft.out.2.2.1
          have hszc := haft.out.2.1
          have q3 := hblk.out.cell 3 rfl
          have fr3 := hblk.out.free 3
          go_upto_block 6 with fail
          go_cut [3] from 11 to 141 (fun i w' => ∃ m : Nat, i = .int .i64 m ∧ j + 1 ≤ m ∧ m ≤ s.size ∧ Below wo.heap.size wo w' ∧ wo.heap.size < w'.heap.size ∧ Hid (Blk w' wo.heap.size [.bool (fU (seg s.data.toList k j)), .bool (fG (seg s.data.toList k j)), .bool (fO (seg s.data.toList k j)), .int .u8 ((s[j].toNat : Nat) : Int), .string ⟨#[]⟩] 63) ∧ Hid ((s.data.toList.drop (j + 1)).takeWhile isLet = seg s.data.toList (j + 1) m ∧ (s.data.toList.drop (j + 1)).dropWhile isLet = s.data.toList.drop m))
          case first =>
            go_wp2_with fail
            go_loop [3] (fun i => ∃ m : Nat, i = .int .i64 m ∧ j + 1 ≤ m ∧ m ≤ s.size ∧ Hid (∀ i (h : i < s.data.toList.length), j + 1 ≤ i → i < m → isLet s.data.toList[i] = true)) (fun i => s.size - (intOf i).toNat)
            case atStart => exact ⟨j + 1, by go_num, Nat.le_refl _, hjl, fun i h h1 h2 => absurd h2 (by omega)⟩
            case round =>
              obtain ⟨m, rfl, hm1, hm2, hall⟩ := hrel
              by_cases hlt : m < s.size
              · have HL := Lib.hid hlt
                go_wp2
                all_goals
                  first
                    | (have HC : isLet s[m] = true := by first | exact let_eq 114 (by assumption) (by decide) (by decide) | exact let_eq 119 (by assumption) (by decide) (by decide) | exact let_eq 120 (by assumption) (by decide) (by decide) | exact let_eq 115 (by assumption) (by decide) (by decide) | exact let_or (by assumption)
                       go_round
                       case rel =>
                         exact ⟨m + 1, by go_num, by omega, HL.out, fun i h h1 h2 => by
                           by_cases e : i = m
                           · subst e; exact HC
                           · exact hall.out i h h1 (by omega)⟩
                       case measure => simp [intOf]; omega)
                    | (have HC : isLet s[m] = false := nolet_and (by assumption)
                       go_meet
                       case rel => exact ⟨m, rfl, hm1, hm2, haft.out.1.setCell (p := ⟨wo.heap.size, 3, none⟩) (Nat.le_refl _) _, by simp [World.setCell]; exact hszc, hblk.out.set 3 _, seg_while isLet s.data.toList (j + 1) m hm1 (by simpa using hm2) hall.out (fun _ => HC)⟩)
              · have HM : Hid (m = s.size) := by show m = s.size; omega
                go_wp2
                go_meet
                case rel =>
                  exact ⟨m, rfl, hm1, hm2, haft.out.1.setCell (p := ⟨wo.heap.size, 3, none⟩) (Nat.le_refl _) _, by simp [World.setCell]; exact hszc, hblk.out.set 3 _, seg_while isLet s.data.toList (j + 1) m hm1 (by simpa using hm2) hall.out (fun h => absurd h (by have := HM.out; simp; omega))⟩
          case rest =>
            obtain ⟨m, rfl, hm1, hm2, hbel3, hsz3, hblk3, hlets⟩ := hcut
            obtain ⟨f0, hf0⟩ : ∃ b : Bool, b = fU (seg s.data.toList k j) := ⟨_, rfl⟩
            obtain ⟨f1, hf1⟩ : ∃ b : Bool, b = fG (seg s.data.toList k j) := ⟨_, rfl⟩
            obtain ⟨f2, hf2⟩ : ∃ b : Bool, b = fO (seg s.data.toList k j) := ⟨_, rfl⟩
            rw [← hf0, ← hf1, ← hf2] at hblk3
            have HFl := Lib.hid (And.intro hf0 (And.intro hf1 hf2))
            have HAft := Lib.hid (And.intro haft.out.2.2.2.1 haft.out.2.2.2.2)
            clear hf0 hf1 hf2 q3 fr3 hblk haft
            have q0 := hblk3.out.cell 0 rfl
            have q1 := hblk3.out.cell 1 rfl
            have q2 := hblk3.out.cell 2 rfl
            have q3 := hblk3.out.cell 3 rfl
            have q4 := hblk3.out.cell 4 rfl
            have fr4 := hblk3.out.free 4
            have HOW : ∀ x, Hid (((wc.setCell ⟨wo.heap.size, 4, none⟩ x).alloc (.cells #[.bool f0, .bool f1, .bool f2, .int .u8 ((s[j].toNat : Nat) : Int), x] 63)).ownsRow w.heap.size 63 5 u2 acc.length (clsCells acc)) := fun x =>
              own_later hown.out ((hbel3.setCell (p := ⟨wo.heap.size, 4, none⟩) (Nat.le_refl _) _).alloc (by simp [World.setCell]; omega) _)
            go_upto_region 22 with (at_builtin; go_must (refine wpList_append1 w.heap.size 63 5 24 _ Tryd.underlying59 info63 rfl (by decide) (by rfl) (HOW _).out (by rfl) [.bool f0, .bool f1, .bool f2, .int .u8 ((s[j].toNat : Nat) : Int), .string (s.extract (j + 1) m)] ?hb rfl ?h1 ?h63 (by decide) ?hbase ?_); rotate_right; intro v' w1 hown1 hgrow)
            case hb =>
              have h := Blk.new (wc.setCell ⟨wo.heap.size, 4, none⟩ (.string (s.extract (j + 1) m))) [.bool f0, .bool f1, .bool f2, .int .u8 ((s[j].toNat : Nat) : Int), .string (s.extract (j + 1) m)] 63
              rw [World.size_setCell] at h
              exact h
            case h1 =>
              intro u hu
              simp only [List.mem_cons, List.not_mem_nil, or_false] at hu
              rcases hu with rfl | rfl | rfl | rfl | rfl <;> rfl
            case h63 => omega
            case hbase => rw [World.size_alloc, World.size_setCell]; omega
            obtain ⟨hkj2, hjL, hop⟩ := hgood.out
            obtain ⟨a1, a2⟩ := HAft.out
            obtain ⟨l1, l2⟩ := hlets.out
            have hmL : m ≤ s.data.toList.length := by simpa using hm2
            have hcell : Hid (clCells (mkCl (seg s.data.toList k j) s.data.toList[j] (seg s.data.toList (j + 1) m)) = [.bool f0, .bool f1, .bool f2, .int .u8 ((s[j].toNat : Nat) : Int), .string (s.extract (j + 1) m)]) := by
              obtain ⟨g0, g1, g2⟩ := HFl.out
              rw [g0, g1, g2, bytes_eq (s.extract (j + 1) m) (seg s.data.toList (j + 1) m) (Lib.extract_data s (j + 1) m)]
              rfl
            have hown2 : Hid (w1.ownsRow w.heap.size 63 5 v' (acc ++ [mkCl (seg s.data.toList k j) s.data.toList[j] (seg s.data.toList (j + 1) m)]).length (clsCells (acc ++ [mkCl (seg s.data.toList k j) s.data.toList[j] (seg s.data.toList (j + 1) m)]))) := by
              have h := hown1
              rw [← hcell.out] at h
              show w1.ownsRow _ _ _ _ _ _
              rw [clsCells_snoc, List.length_append]
              exact h
            have hbelF : Below w.heap.size w w1 := Below.grown (below_up hbel ((hbel3.setCell (p := ⟨wo.heap.size, 4, none⟩) (Nat.le_refl _) _).alloc (by rw [World.size_setCell]; omega) _) hszo) hgrow (by rw [World.size_alloc, World.size_setCell]; omega) (fun q e => (hown.out.lt q e).1)
            obtain ⟨f', rfl⟩ : ∃ f', f = f' + 1 := ⟨f - 1, by have := hfin.out.1; omega⟩
            have PE := fun hm => Lib.hid (parse_end f' hkj hkj2 hjL hm hop a1 a2 l1 l2)
            have PS := fun hm hx => Lib.hid (parse_stop f' hkj hkj2 hjL hm hop a1 a2 l1 l2 hx)
            have PM := fun hm hx => Lib.hid (parse_more f' hkj hkj2 hjL hm hop a1 a2 l1 l2 hx)
            clear hown1 hgrow l1 l2 a1 a2 hop q0 q1 q2 q3 q4 fr4 HOW hkj2
            by_cases hme : m = s.size
            · have tm : (((m : Nat) : Int) == ((s.size : Nat) : Int)) = true := by rw [beq_iff_eq]; omega
              have HE := Lib.hid hme
              clear hme
              go_wp2
              go_ret3
              refine clauses_some hbelF (l := acc ++ [mkCl (seg s.data.toList k j) s.data.toList[j] (seg s.data.toList (j + 1) m)]) ?_ hown2.out
              have h := hfin.out.2
              rw [(PE (by have := HE.out; simpa using this)).out] at h
              exact h.symm
            · have tm : (((m : Nat) : Int) == ((s.size : Nat) : Int)) = false := by rw [beq_eq_false_iff_ne]; omega
              have hlt : m < s.size := by omega
              have hmL2 : m < s.data.toList.length := by simpa using hlt
              clear hme
              cases hc : (((s[m].toNat : Nat) : Int) != 44) with
              | true =>
                have HC := Lib.hid hc
                go_wp2
                go_ret3
                refine clauses_none hbelF ?_ m (by simpa using hm2)
                have h := hfin.out.2
                rw [(PS hmL2 (by have h1 := HC.out; intro e; have e' : s[m] = 44 := e; rw [e'] at h1; exact absurd h1 (by decide))).out] at h
                exact h.symm
              | false =>
                have HC := Lib.hid hc
                go_wp2
                go_roundw
                case rel =>
                  refine ⟨acc ++ [mkCl (seg s.data.toList k j) s.data.toList[j] (seg s.data.toList (j + 1) m)], m + 1, f', by go_num, by omega, by simp; omega, hbelF, hown2, Lib.hid ⟨by have := hfin.out.1; omega, ?_⟩⟩
                  have h := hfin.out.2
                  rw [(PM hmL2 (by
                    have h1 := HC.out
                    have h2 := byte_eq (b := s[m]) 44 (by omega)
                    have h3 : (((s[m].toNat : Nat) : Int) == 44) = true := by simpa using h1
                    have h4 : s[m] = 44 := by simpa using h2.symm.trans h3
                    exact h4)).out, Option.map_map] at h
                  rw [← h]
                  congr 1
                  funext x
                  simp
                case measure => simp [intOf]; omega

end Go.Proofs.YtkjmmpdmbdimoaaDoor
