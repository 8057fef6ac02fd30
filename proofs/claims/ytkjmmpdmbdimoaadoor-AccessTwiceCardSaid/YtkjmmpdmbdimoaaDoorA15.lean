/- The contract of the reference's Clauses. -/
import Derived.Test.YtkjmmpdmbdimoaaDoorA14
import Derived.BigRegion
namespace Go.Proofs.YtkjmmpdmbdimoaaDoor
open Go.RowKit Go.Own

theorem info43 : (Tryd.prog.info? 43).map (fun i => (i.zero, i.size, i.bytes)) = some (some (.agg #[.bool false, .bool false, .bool false, .int .u8 0, .string ⟨#[]⟩]), 5, 24) := by kernel_rfl

def RClausesPost (L : List UInt8) (w : World) (e : Ending) (w' : World) : Prop :=
  Below w.heap.size w w' ∧ match parseC (L.length + 1) L with
    | none => ∃ j : Int, 0 ≤ j ∧ j ≤ L.length ∧ e = .returned (.tuple #[.slice none 0 0, .int .i64 j])
    | some l => ∃ v, e = .returned (.tuple #[v, .int .i64 (-1)]) ∧ w'.ownsRow w.heap.size 43 5 v l.length (clsCells l)
theorem rclauses_none {L : List UInt8} {w w' : World} (hb : Below w.heap.size w w') (hp : parseC (L.length + 1) L = none) (j : Nat) (hj : j ≤ L.length) : RClausesPost L w (.returned (.tuple #[.slice none 0 0, .int .i64 j])) w' := by
  unfold RClausesPost
  rw [hp]
  exact ⟨hb, j, by omega, by omega, rfl⟩
theorem rclauses_some {L : List UInt8} {w w' : World} (hb : Below w.heap.size w w') {l : List Cl} (hp : parseC (L.length + 1) L = some l) {v : Value} (hv : w'.ownsRow w.heap.size 43 5 v l.length (clsCells l)) : RClausesPost L w (.returned (.tuple #[v, .int .i64 (-1)])) w' := by
  unfold RClausesPost
  rw [hp]
  exact ⟨hb, v, rfl, hv⟩

theorem rc_drew {B : Nat} {w W : World} (h : Below B w W) : Below B w W.drew := ⟨h.os, h.tape, h.output, h.size, h.block⟩

/-- What holds behind the loop over the letters of the classes. -/
def RAfter (L : List UInt8) (k j : Nat) (wo w' : World) : Prop :=
  Below wo.heap.size wo w' ∧ wo.heap.size < w'.heap.size ∧ Blk w' wo.heap.size [.bool (fU (seg L k j)), .bool (fG (seg L k j)), .bool (fO (seg L k j)), .int .u8 0, .string ⟨#[]⟩] 43 ∧
    (L.drop k).takeWhile isCls = seg L k j ∧ (L.drop k).dropWhile isCls = L.drop j

set_option maxHeartbeats 4000000 in
set_option maxRecDepth 100000 in
theorem rclauses_calls (s : ByteArray) (w : World) (hs : s.size ≤ 100) :
    Calls Tryd.prog 12 #[.string s] w (RClausesPost s.data.toList w) := by
  go_enter Tryd.func12, Tryd.ntmps12
  go_wp2
  go_loopw [4, 5] (fun v i wr => ∃ (acc : List Cl) (k f : Nat), i = .int .i64 k ∧ k ≤ s.size ∧ acc.length ≤ k ∧ Below w.heap.size w wr ∧ Hid (wr.ownsRow w.heap.size 43 5 v acc.length (clsCells acc)) ∧ Hid (s.size - k < f ∧ (parseC f (s.data.toList.drop k)).map (acc ++ ·) = parseC (s.data.toList.length + 1) s.data.toList)) (fun _ i _ => s.size + 1 - (intOf i).toNat)
  case atStart =>
    exact ⟨[], 0, s.size + 1, rfl, by omega, by simp, Below.refl _ _, World.ownsRow_nil _ _ _ _, by omega, by simp⟩
  case round =>
    obtain ⟨acc, k, f, rfl, hk, hacc, hbel, hown, hfin⟩ := hrel
    obtain ⟨wo, rfl⟩ : ∃ wo : World, wo = wr := ⟨_, rfl⟩
    have hszo : w.heap.size ≤ wo.heap.size := hbel.size
    go_upto_block 2 with fail
    go_cut [5, 7] from 8 to 104 (fun i nm w' => ∃ (j : Nat) (nb : Bool), i = .int .i64 j ∧ nm = .bool nb ∧ Hid (nb = decide (k < j)) ∧ k ≤ j ∧ j ≤ s.size ∧ Hid (RAfter s.data.toList k j wo w'))
    case first =>
      go_wp2_with fail
      go_loopw [5, 7] (fun i nm wr => ∃ (j : Nat) (b0 b1 b2 nb : Bool), i = .int .i64 j ∧ nm = .bool nb ∧ Hid (nb = decide (k < j)) ∧ k ≤ j ∧ j ≤ s.size ∧ Below wo.heap.size wo wr ∧ wo.heap.size < wr.heap.size ∧ Hid (Blk wr wo.heap.size [.bool b0, .bool b1, .bool b2, .int .u8 0, .string ⟨#[]⟩] 43) ∧
        Hid ((b0 = fU (seg s.data.toList k j) ∧ b1 = fG (seg s.data.toList k j) ∧ b2 = fO (seg s.data.toList k j)) ∧ ∀ i (h : i < s.data.toList.length), k ≤ i → i < j → isCls s.data.toList[i] = true)) (fun i _ _ => s.size - (intOf i).toNat)
      case atStart =>
        exact ⟨k, false, false, false, false, rfl, rfl, by simp [Lib.hid, Hid], Nat.le_refl _, hk, bel1 _ _, by simp, Blk.new _ _ _, ⟨by simp [seg_self, fU, fG, fO], fun i h h1 h2 => absurd h2 (by omega)⟩⟩
      case round =>
        obtain ⟨j, b0, b1, b2, nb, rfl, rfl, hnb, hkj, hj, hbel2, hsz2, hblk, hseg⟩ := hrel
        obtain ⟨w2, rfl⟩ : ∃ w2 : World, w2 = wr := ⟨_, rfl⟩
        by_cases hlt : j < s.size
        · cases hcls : isCls s[j] with
          | true =>
            have HC := Lib.hid hcls
            clear hcls
            go_wp2_with (go_at_call 25; (refine (ix_yes isCls_mem (by decide) s[j] _ HC.out).mono ?_); rintro e w4 ⟨⟨r, rfl, hr0, hr1⟩, rfl⟩)
            have HPP : Hid (∃ p0 p1 p2 p3 : Bool, (((s[j].toNat : Nat) : Int) == 117) = p0 ∧ (((s[j].toNat : Nat) : Int) == 103) = p1 ∧ (((s[j].toNat : Nat) : Int) == 111) = p2 ∧ (((s[j].toNat : Nat) : Int) == 97) = p3) := ⟨_, _, _, _, rfl, rfl, rfl, rfl⟩
            obtain ⟨p0, p1, p2, p3, hpp⟩ := HPP.out
            clear HPP
            have HPP := Lib.hid hpp
            clear hpp
            have HRR := Lib.hid (And.intro hr0 hr1)
            clear hr0 hr1
            go_loopw [8] (fun i w3 => ∃ (m : Nat) (c0 c1 c2 : Bool), i = .int .i64 m ∧ m ≤ 3 ∧ Below wo.heap.size wo w3 ∧ wo.heap.size < w3.heap.size ∧ Hid (Blk w3 wo.heap.size [.bool c0, .bool c1, .bool c2, .int .u8 0, .string ⟨#[]⟩] 43) ∧
              Hid (c0 = (if 0 < m then (b0 || (p0 || p3)) else b0) ∧ c1 = (if 1 < m then (b1 || (p1 || p3)) else b1) ∧ c2 = (if 2 < m then (b2 || (p2 || p3)) else b2))) (fun i _ => 3 - (intOf i).toNat)
            case atStart =>
              exact ⟨0, b0, b1, b2, rfl, by omega, hbel2, hsz2, hblk, ⟨rfl, rfl, rfl⟩⟩
            case round =>
              obtain ⟨m, c0, c1, c2, rfl, hm, hbel3, hsz3, hblk3, hc3⟩ := hrel
              have hm' : m = 0 ∨ m = 1 ∨ m = 2 ∨ m = 3 := by omega
              have hwo : Hid (wo.heap.size ≤ wo.heap.size) := Nat.le_refl _
              rcases hm' with rfl | rfl | rfl | rfl
              · obtain ⟨e0, e1, e2⟩ := hc3.out
                have E := Lib.hid (And.intro e0 (And.intro e1 e2))
                clear e0 e1 e2
                have k0 : ((({ data := #[117, 103, 111] } : ByteArray)[0]'(by decide)).toNat) = 117 := rfl
                obtain ⟨a0, a1, a2, a3⟩ := HPP.out
                clear a1 a2
                cases c0 with
                | true =>
                  clear a0 a3
                  go_wp2_with fail
                  have q0 := hblk3.out.cell 0 rfl
                  have fr0 := hblk3.out.free 0
                  go_region
                  go_wp2
                  go_roundw
                  case rel => exact ⟨1, _, c1, c2, rfl, by omega, rc_drew (hbel3.setCell (p := ⟨wo.heap.size, 0, none⟩) hwo.out _), (by show _ < (World.setCell _ _ _).heap.size; rw [World.size_setCell]; exact hsz3), (hblk3.out.set 0 _).drew, Lib.hid (by have h := E.out; simp at h; simp [h])⟩
                  case measure => simp [intOf]
                | false =>
                  cases p0 with
                  | true =>
                    clear a3
                    go_wp2_with fail
                    have q0 := hblk3.out.cell 0 rfl
                    have fr0 := hblk3.out.free 0
                    go_region
                    go_wp2
                    go_roundw
                    case rel => exact ⟨1, _, c1, c2, rfl, by omega, rc_drew (hbel3.setCell (p := ⟨wo.heap.size, 0, none⟩) hwo.out _), (by show _ < (World.setCell _ _ _).heap.size; rw [World.size_setCell]; exact hsz3), (hblk3.out.set 0 _).drew, Lib.hid (by have h := E.out; simp at h; simp [h])⟩
                    case measure => simp [intOf]
                  | false =>
                    cases p3
                    all_goals
                      go_wp2_with fail
                      have q0 := hblk3.out.cell 0 rfl
                      have fr0 := hblk3.out.free 0
                      go_region
                      go_wp2
                      go_roundw
                      case rel => exact ⟨1, _, c1, c2, rfl, by omega, rc_drew (hbel3.setCell (p := ⟨wo.heap.size, 0, none⟩) hwo.out _), (by show _ < (World.setCell _ _ _).heap.size; rw [World.size_setCell]; exact hsz3), (hblk3.out.set 0 _).drew, Lib.hid (by have h := E.out; simp at h; simp [h])⟩
                      case measure => simp [intOf]
              · obtain ⟨e0, e1, e2⟩ := hc3.out
                have E := Lib.hid (And.intro e0 (And.intro e1 e2))
                clear e0 e1 e2
                have k1 : ((({ data := #[117, 103, 111] } : ByteArray)[1]'(by decide)).toNat) = 103 := rfl
                obtain ⟨a0, a1, a2, a3⟩ := HPP.out
                clear a0 a2
                cases c1 with
                | true =>
                  clear a1 a3
                  go_wp2_with fail
                  have q1 := hblk3.out.cell 1 rfl
                  have fr1 := hblk3.out.free 1
                  go_region
                  go_wp2
                  go_roundw
                  case rel => exact ⟨2, c0, _, c2, rfl, by omega, rc_drew (hbel3.setCell (p := ⟨wo.heap.size, 1, none⟩) hwo.out _), (by show _ < (World.setCell _ _ _).heap.size; rw [World.size_setCell]; exact hsz3), (hblk3.out.set 1 _).drew, Lib.hid (by have h := E.out; simp at h; simp [h])⟩
                  case measure => simp [intOf]
                | false =>
                  cases p1 with
                  | true =>
                    clear a3
                    go_wp2_with fail
                    have q1 := hblk3.out.cell 1 rfl
                    have fr1 := hblk3.out.free 1
                    go_region
                    go_wp2
                    go_roundw
                    case rel => exact ⟨2, c0, _, c2, rfl, by omega, rc_drew (hbel3.setCell (p := ⟨wo.heap.size, 1, none⟩) hwo.out _), (by show _ < (World.setCell _ _ _).heap.size; rw [World.size_setCell]; exact hsz3), (hblk3.out.set 1 _).drew, Lib.hid (by have h := E.out; simp at h; simp [h])⟩
                    case measure => simp [intOf]
                  | false =>
                    cases p3
                    all_goals
                      go_wp2_with fail
                      have q1 := hblk3.out.cell 1 rfl
                      have fr1 := hblk3.out.free 1
                      go_region
                      go_wp2
                      go_roundw
                      case rel => exact ⟨2, c0, _, c2, rfl, by omega, rc_drew (hbel3.setCell (p := ⟨wo.heap.size, 1, none⟩) hwo.out _), (by show _ < (World.setCell _ _ _).heap.size; rw [World.size_setCell]; exact hsz3), (hblk3.out.set 1 _).drew, Lib.hid (by have h := E.out; simp at h; simp [h])⟩
                      case measure => simp [intOf]
              · obtain ⟨e0, e1, e2⟩ := hc3.out
                have E := Lib.hid (And.intro e0 (And.intro e1 e2))
                clear e0 e1 e2
                have k2 : ((({ data := #[117, 103, 111] } : ByteArray)[2]'(by decide)).toNat) = 111 := rfl
                obtain ⟨a0, a1, a2, a3⟩ := HPP.out
                clear a0 a1
                cases c2 with
                | true =>
                  clear a2 a3
                  go_wp2_with fail
                  have q2 := hblk3.out.cell 2 rfl
                  have fr2 := hblk3.out.free 2
                  go_region
                  go_wp2
                  go_roundw
                  case rel => exact ⟨3, c0, c1, _, rfl, by omega, rc_drew (hbel3.setCell (p := ⟨wo.heap.size, 2, none⟩) hwo.out _), (by show _ < (World.setCell _ _ _).heap.size; rw [World.size_setCell]; exact hsz3), (hblk3.out.set 2 _).drew, Lib.hid (by have h := E.out; simp at h; simp [h])⟩
                  case measure => simp [intOf]
                | false =>
                  cases p2 with
                  | true =>
                    clear a3
                    go_wp2_with fail
                    have q2 := hblk3.out.cell 2 rfl
                    have fr2 := hblk3.out.free 2
                    go_region
                    go_wp2
                    go_roundw
                    case rel => exact ⟨3, c0, c1, _, rfl, by omega, rc_drew (hbel3.setCell (p := ⟨wo.heap.size, 2, none⟩) hwo.out _), (by show _ < (World.setCell _ _ _).heap.size; rw [World.size_setCell]; exact hsz3), (hblk3.out.set 2 _).drew, Lib.hid (by have h := E.out; simp at h; simp [h])⟩
                    case measure => simp [intOf]
                  | false =>
                    cases p3
                    all_goals
                      go_wp2_with fail
                      have q2 := hblk3.out.cell 2 rfl
                      have fr2 := hblk3.out.free 2
                      go_region
                      go_wp2
                      go_roundw
                      case rel => exact ⟨3, c0, c1, _, rfl, by omega, rc_drew (hbel3.setCell (p := ⟨wo.heap.size, 2, none⟩) hwo.out _), (by show _ < (World.setCell _ _ _).heap.size; rw [World.size_setCell]; exact hsz3), (hblk3.out.set 2 _).drew, Lib.hid (by have h := E.out; simp at h; simp [h])⟩
                      case measure => simp [intOf]
              · have HL := Lib.hid hlt
                go_wp2
                go_roundw
                case rel =>
                  obtain ⟨e0, e1, e2⟩ := hc3.out
                  obtain ⟨g0, g1, g2, g3⟩ := HPP.out
                  obtain ⟨⟨f0, f1, f2⟩, hall⟩ := hseg.out
                  have hl : j < s.data.toList.length := by have := HL.out; simpa using this
                  have hb : s.data.toList[j] = s[j]'HL.out := rfl
                  refine ⟨j + 1, c0, c1, c2, true, by go_num, rfl, by show true = decide (k < j + 1); rw [decide_eq_true (by omega)], by omega, HL.out, hbel3, by omega, hblk3, Lib.hid ⟨?_, ?_⟩⟩
                  · have G0 := (byte_eq (b := s[j]'HL.out) 117 (by omega)).symm.trans g0
                    have G1 := (byte_eq (b := s[j]'HL.out) 103 (by omega)).symm.trans g1
                    have G2 := (byte_eq (b := s[j]'HL.out) 111 (by omega)).symm.trans g2
                    have G3 := (byte_eq (b := s[j]'HL.out) 97 (by omega)).symm.trans g3
                    rw [seg_snoc _ _ _ hkj hl, fU_snoc, fG_snoc, fO_snoc, hb, ← f0, ← f1, ← f2]
                    simp only [show (117 : UInt8) = UInt8.ofNat 117 from rfl, show (103 : UInt8) = UInt8.ofNat 103 from rfl, show (111 : UInt8) = UInt8.ofNat 111 from rfl, show (97 : UInt8) = UInt8.ofNat 97 from rfl, G0, G1, G2, G3]
                    simpa using And.intro e0 (And.intro e1 e2)
                  · intro i h h1 h2
                    by_cases e : i = j
                    · subst e; rw [hb]; exact HC.out
                    · exact hall i h h1 (by omega)
                case measure => simp [intOf]; have := HL.out; omega
          | false =>
            have HC := Lib.hid hcls
            have HL := Lib.hid hlt
            clear hcls
            go_wp2_with (go_at_call 25; (refine (ix_no isCls_mem (by decide) s[j] _ HC.out).mono ?_); rintro e w4 ⟨rfl, rfl⟩)
            go_meet
            case rel =>
              obtain ⟨⟨f0, f1, f2⟩, hall⟩ := hseg.out
              have hl : j < s.data.toList.length := by have := HL.out; simpa using this
              have hw := seg_while isCls s.data.toList k j hkj (by omega) hall (fun _ => HC.out)
              refine ⟨j, nb, rfl, rfl, hnb, hkj, hj, Lib.hid ⟨hbel2, hsz2, ?_, hw.1, hw.2⟩⟩
              rw [← f0, ← f1, ← f2]
              exact hblk.out
        · have HJ : Hid (j = s.size) := by show j = s.size; omega
          go_wp2
          go_meet
          case rel =>
            obtain ⟨⟨f0, f1, f2⟩, hall⟩ := hseg.out
            have hl : j = s.data.toList.length := by have := HJ.out; simpa using this
            have hw := seg_while isCls s.data.toList k j hkj (by omega) hall (fun h => absurd h (by omega))
            refine ⟨j, nb, rfl, rfl, hnb, hkj, hj, Lib.hid ⟨hbel2, hsz2, ?_, hw.1, hw.2⟩⟩
            rw [← f0, ← f1, ← f2]
            exact hblk.out
    case rest =>
      obtain ⟨j, nb, rfl, rfl, hnb, hkj, hj, haft⟩ := hcut
      obtain ⟨bad, hbad⟩ : ∃ b : Bool, b = badAt s.data.toList k j := ⟨_, rfl⟩
      have HB := Lib.hid hbad
      clear hbad
      go_upto_region 12 with fail
      go_cut [62] from 8 to 104 (fun t w' => t = .bool bad ∧ w' = wc)
      case first =>
        cases nb with
        | false =>
          go_wp2
          go_meet
          case rel => exact ⟨by rw [HB.out, badAt]; have h : k = j := (by have h2 := of_decide_eq_false hnb.out.symm; omega); simp [h], rfl⟩
        | true =>
          have HK : Hid (¬ k = j) := by show ¬ k = j; have h := of_decide_eq_true (hnb.out).symm; omega
          by_cases hlt : j < s.size
          · have tjn : (((j : Nat) : Int) == ((s.size : Nat) : Int)) = false := by rw [beq_eq_false_iff_ne]; omega
            have hidx : s.data.toList[j]? = some s[j] := by rw [List.getElem?_eq_getElem (by simpa using hlt)]; rfl
            have HI := Lib.hid hidx
            clear hidx
            cases hop : isOp s[j] with
            | true =>
              have HO := Lib.hid hop
              clear hop
              go_wp2_with (go_at_call 25; (refine (ix_yes isOp_mem (by decide) s[j] _ HO.out).mono ?_); rintro e w4 ⟨⟨r, rfl, hr0, hr1⟩, rfl⟩)
              go_meet
              case rel => exact ⟨by rw [HB.out, badAt, HI.out]; have h := HO.out; have hk := HK.out; simp [h, hk]; omega, rfl⟩
            | false =>
              have HO := Lib.hid hop
              clear hop
              go_wp2_with (go_at_call 25; (refine (ix_no isOp_mem (by decide) s[j] _ HO.out).mono ?_); rintro e w4 ⟨rfl, rfl⟩)
              go_meet
              case rel => exact ⟨by rw [HB.out, badAt, HI.out]; have h := HO.out; simp [h], rfl⟩
          · have HJ : Hid (j = s.size) := by show j = s.size; omega
            have tjn : (((j : Nat) : Int) == ((s.size : Nat) : Int)) = true := by rw [beq_iff_eq]; omega
            clear hlt
            go_wp2
            go_meet
            case rel => exact ⟨by rw [HB.out, badAt, List.getElem?_eq_none (by have := HJ.out; simp; omega)]; simp, rfl⟩
      case rest =>
        obtain ⟨rfl, rfl⟩ := hcut
        cases bad with
        | true =>
          go_wp2
          go_ret2
          obtain ⟨h1, h2, h3, h4, h5⟩ := haft.out
          have hp := parse_bad f (by simpa using hj) h4 h5 HB.out.symm
          exact rclauses_none (below_up hbel h1 hszo) (by have h := hfin.out.2; rw [hp] at h; exact h.symm) j (by simpa using hj)
        | false =>
          have hgood := Lib.hid (good_at HB.out.symm)
          have hjl : j < s.size := by obtain ⟨_, h, _⟩ := hgood.out; simpa using h
          have hblk := Lib.hid haft.out.2.2.1
          have hszc := haft.out.2.1
          have q3 := hblk.out.cell 3 rfl
          have fr3 := hblk.out.free 3
          go_upto_block 6 with fail
          go_cut [5, 9] from 10 to 104 (fun i fr w' => ∃ m : Nat, i = .int .i64 m ∧ fr = .int .i64 ((j : Int) + 1) ∧ j + 1 ≤ m ∧ m ≤ s.size ∧ Below wo.heap.size wo w' ∧ wo.heap.size < w'.heap.size ∧ Hid (Blk w' wo.heap.size [.bool (fU (seg s.data.toList k j)), .bool (fG (seg s.data.toList k j)), .bool (fO (seg s.data.toList k j)), .int .u8 ((s[j].toNat : Nat) : Int), .string ⟨#[]⟩] 43) ∧ Hid ((s.data.toList.drop (j + 1)).takeWhile isLet = seg s.data.toList (j + 1) m ∧ (s.data.toList.drop (j + 1)).dropWhile isLet = s.data.toList.drop m))
          case first =>
            go_wp2_with fail
            go_loop [5] (fun i => ∃ m : Nat, i = .int .i64 m ∧ j + 1 ≤ m ∧ m ≤ s.size ∧ Hid (∀ i (h : i < s.data.toList.length), j + 1 ≤ i → i < m → isLet s.data.toList[i] = true)) (fun i => s.size - (intOf i).toNat)
            case atStart => exact ⟨j + 1, by go_num, Nat.le_refl _, hjl, fun i h h1 h2 => absurd h2 (by omega)⟩
            case round =>
              obtain ⟨m, rfl, hm1, hm2, hall⟩ := hrel
              by_cases hlt : m < s.size
              · have HL := Lib.hid hlt
                cases hlet : isLet s[m] with
                | true =>
                  have HC := Lib.hid hlet
                  clear hlet
                  go_wp2_with (go_at_call 25; (refine (ix_yes isLet_mem (by decide) s[m] _ HC.out).mono ?_); rintro e w4 ⟨⟨r, rfl, hr0, hr1⟩, rfl⟩)
                  go_round
                  case rel =>
                    exact ⟨m + 1, by go_num, by omega, HL.out, fun i h h1 h2 => by
                      by_cases e : i = m
                      · subst e; exact HC.out
                      · exact hall.out i h h1 (by omega)⟩
                  case measure => simp [intOf]; omega
                | false =>
                  have HC := Lib.hid hlet
                  clear hlet
                  go_wp2_with (go_at_call 25; (refine (ix_no isLet_mem (by decide) s[m] _ HC.out).mono ?_); rintro e w4 ⟨rfl, rfl⟩)
                  go_meet
                  case rel => exact ⟨m, rfl, by go_num, hm1, hm2, haft.out.1.setCell (p := ⟨wo.heap.size, 3, none⟩) (Nat.le_refl _) _, by simp [World.setCell]; exact hszc, hblk.out.set 3 _, seg_while isLet s.data.toList (j + 1) m hm1 (by simpa using hm2) hall.out (fun _ => HC.out)⟩
              · have HM : Hid (m = s.size) := by show m = s.size; omega
                go_wp2
                go_meet
                case rel =>
                  exact ⟨m, rfl, by go_num, hm1, hm2, haft.out.1.setCell (p := ⟨wo.heap.size, 3, none⟩) (Nat.le_refl _) _, by simp [World.setCell]; exact hszc, hblk.out.set 3 _, seg_while isLet s.data.toList (j + 1) m hm1 (by simpa using hm2) hall.out (fun h => absurd h (by have := HM.out; simp; omega))⟩
          case rest =>
            obtain ⟨m, rfl, rfl, hm1, hm2, hbel3, hsz3, hblk3, hlets⟩ := hcut
            obtain ⟨f0, hf0⟩ : ∃ b : Bool, b = fU (seg s.data.toList k j) := ⟨_, rfl⟩
            obtain ⟨f1, hf1⟩ : ∃ b : Bool, b = fG (seg s.data.toList k j) := ⟨_, rfl⟩
            obtain ⟨f2, hf2⟩ : ∃ b : Bool, b = fO (seg s.data.toList k j) := ⟨_, rfl⟩
            rw [← hf0, ← hf1, ← hf2] at hblk3
            have HFl := Lib.hid (And.intro hf0 (And.intro hf1 hf2))
            have HAft := Lib.hid (And.intro haft.out.2.2.2.1 haft.out.2.2.2.2)
            clear hf0 hf1 hf2 q3 fr3 hblk haft
            have q0 := hblk3.out.cell 0 rfl
            have q1 := hblk3.out.cell 1 rfl
            have q2 := hblk3.out.cell 2 rfl
            have q3 := hblk3.out.cell 3 rfl
            have q4 := hblk3.out.cell 4 rfl
            have fr4 := hblk3.out.free 4
            have HOW : ∀ x, Hid (((wc.setCell ⟨wo.heap.size, 4, none⟩ x).alloc (.cells #[.bool f0, .bool f1, .bool f2, .int .u8 ((s[j].toNat : Nat) : Int), x] 43)).ownsRow w.heap.size 43 5 u4 acc.length (clsCells acc)) := fun x =>
              own_later hown.out ((hbel3.setCell (p := ⟨wo.heap.size, 4, none⟩) (Nat.le_refl _) _).alloc (by simp [World.setCell]; omega) _)
            go_upto_region 21 with (at_builtin; go_must (refine wpList_append1 w.heap.size 43 5 24 _ Tryd.underlying36 info43 rfl (by decide) (by rfl) (HOW _).out (by rfl) [.bool f0, .bool f1, .bool f2, .int .u8 ((s[j].toNat : Nat) : Int), .string (s.extract (j + 1) m)] ?hb rfl ?h1 ?h63 (by decide) ?hbase ?_); rotate_right; intro v' w1 hown1 hgrow)
            case hb =>
              have h := Blk.new (wc.setCell ⟨wo.heap.size, 4, none⟩ (.string (s.extract (j + 1) m))) [.bool f0, .bool f1, .bool f2, .int .u8 ((s[j].toNat : Nat) : Int), .string (s.extract (j + 1) m)] 43
              rw [World.size_setCell] at h
              exact h
            case h1 =>
              intro u hu
              simp only [List.mem_cons, List.not_mem_nil, or_false] at hu
              rcases hu with rfl | rfl | rfl | rfl | rfl <;> rfl
            case h63 => omega
            case hbase => rw [World.size_alloc, World.size_setCell]; omega
            obtain ⟨hkj2, hjL, hop⟩ := hgood.out
            obtain ⟨a1, a2⟩ := HAft.out
            obtain ⟨l1, l2⟩ := hlets.out
            have hmL : m ≤ s.data.toList.length := by simpa using hm2
            have hcell : Hid (clCells (mkCl (seg s.data.toList k j) s.data.toList[j] (seg s.data.toList (j + 1) m)) = [.bool f0, .bool f1, .bool f2, .int .u8 ((s[j].toNat : Nat) : Int), .string (s.extract (j + 1) m)]) := by
              obtain ⟨g0, g1, g2⟩ := HFl.out
              rw [g0, g1, g2, bytes_eq (s.extract (j + 1) m) (seg s.data.toList (j + 1) m) (Lib.extract_data s (j + 1) m)]
              rfl
            have hown2 : Hid (w1.ownsRow w.heap.size 43 5 v' (acc ++ [mkCl (seg s.data.toList k j) s.data.toList[j] (seg s.data.toList (j + 1) m)]).length (clsCells (acc ++ [mkCl (seg s.data.toList k j) s.data.toList[j] (seg s.data.toList (j + 1) m)]))) := by
              have h := hown1
              rw [← hcell.out] at h
              show w1.ownsRow _ _ _ _ _ _
              rw [clsCells_snoc, List.length_append]
              exact h
            have hbelF : Below w.heap.size w w1 := Below.grown (below_up hbel ((hbel3.setCell (p := ⟨wo.heap.size, 4, none⟩) (Nat.le_refl _) _).alloc (by rw [World.size_setCell]; omega) _) hszo) hgrow (by rw [World.size_alloc, World.size_setCell]; omega) (fun q e => (hown.out.lt q e).1)
            obtain ⟨f', rfl⟩ : ∃ f', f = f' + 1 := ⟨f - 1, by have := hfin.out.1; omega⟩
            have PE := fun hm => Lib.hid (parse_end f' hkj hkj2 hjL hm hop a1 a2 l1 l2)
            have PS := fun hm hx => Lib.hid (parse_stop f' hkj hkj2 hjL hm hop a1 a2 l1 l2 hx)
            have PM := fun hm hx => Lib.hid (parse_more f' hkj hkj2 hjL hm hop a1 a2 l1 l2 hx)
            clear hown1 hgrow l1 l2 a1 a2 hop q0 q1 q2 q3 q4 fr4 HOW hkj2
            by_cases hme : m = s.size
            · have tm : (((m : Nat) : Int) == ((s.size : Nat) : Int)) = true := by rw [beq_iff_eq]; omega
              have HE := Lib.hid hme
              clear hme
              go_wp2
              go_ret2
              refine rclauses_some hbelF (l := acc ++ [mkCl (seg s.data.toList k j) s.data.toList[j] (seg s.data.toList (j + 1) m)]) ?_ hown2.out
              have h := hfin.out.2
              rw [(PE (by have := HE.out; simpa using this)).out] at h
              exact h.symm
            · have tm : (((m : Nat) : Int) == ((s.size : Nat) : Int)) = false := by rw [beq_eq_false_iff_ne]; omega
              have hlt : m < s.size := by omega
              have hmL2 : m < s.data.toList.length := by simpa using hlt
              clear hme
              cases hc : (((s[m].toNat : Nat) : Int) != 44) with
              | true =>
                have HC := Lib.hid hc
                go_wp2
                go_ret2
                refine rclauses_none hbelF ?_ m (by simpa using hm2)
                have h := hfin.out.2
                rw [(PS hmL2 (by have h1 := HC.out; intro e; have e' : s[m] = 44 := e; rw [e'] at h1; exact absurd h1 (by decide))).out] at h
                exact h.symm
              | false =>
                have HC := Lib.hid hc
                go_wp2
                go_roundw
                case rel =>
                  refine ⟨acc ++ [mkCl (seg s.data.toList k j) s.data.toList[j] (seg s.data.toList (j + 1) m)], m + 1, f', by go_num, by omega, by simp; omega, hbelF, hown2, Lib.hid ⟨by have := hfin.out.1; omega, ?_⟩⟩
                  have h := hfin.out.2
                  rw [(PM hmL2 (by
                    have h1 := HC.out
                    have h2 := byte_eq (b := s[m]) 44 (by omega)
                    have h3 : (((s[m].toNat : Nat) : Int) == 44) = true := by simpa using h1
                    have h4 : s[m] = 44 := by simpa using h2.symm.trans h3
                    exact h4)).out, Option.map_map] at h
                  rw [← h]
                  congr 1
                  funext x
                  simp
                case measure => simp [intOf]; omega

end Go.Proofs.YtkjmmpdmbdimoaaDoor
