/- object.Compare. -/
import Derived.Test.YtapkboadkbnjaaaGreatDoorP2
namespace Go.Proofs.YtapkboadkbnjaaaGreatDoor
open Go.RowKit Go.Own

/-- Two names in boxes. -/
structure N2 (w0 : World) (X : Nat) (a b : Nm) (w : World) : Prop where
  ba : Blk w X (nmC a) 34
  bb : Blk w (X + 1) (nmC b) 34
  bel : Below w0.heap.size w0 w
theorem N2.later {w0 w w' : World} {X : Nat} {a b : Nm} (h : N2 w0 X a b w) (hb : Below w.heap.size w w') : N2 w0 X a b w' :=
  ⟨h.ba.below hb h.ba.lt, h.bb.below hb h.bb.lt, bel_then h.bel h.bel.size hb⟩
theorem n2_new (w : World) (a b : Nm) : N2 w w.heap.size a b ((w.alloc (.cells #[.int .i64 a.kind, .string a.owner, .int .i64 a.num, .int .i64 a.idx, .string a.text] 34)).alloc (.cells #[.int .i64 b.kind, .string b.owner, .int .i64 b.num, .int .i64 b.idx, .string b.text] 34)) := by
  refine ⟨(Blk.new w (nmC a) 34).alloc _, ?_, ((Below.refl _ w).alloc (Nat.le_refl _) _).alloc (by simp) _⟩
  have h := Blk.new (w.alloc (.cells #[.int .i64 a.kind, .string a.owner, .int .i64 a.num, .int .i64 a.idx, .string a.text] 34)) (nmC b) 34
  rw [World.size_alloc] at h
  exact h

def cmpN (a b : Nm) (c : Int) : Int := orI [cmpI a.kind b.kind, c, cmpI a.num b.num, cmpI a.idx b.idx, Lib.compareBytes a.text.data.toList b.text.data.toList]
theorem or_new (w : World) (zs : List Int) (n : Nat) (hn : zs.length = n) (hc : n ≤ 9223372036854775807) :
    Calls Tryz.prog 83 #[.slice (some ⟨w.heap.size, 0, none⟩) n n] (w.alloc (.cells (ivals zs).toArray 3)) fun e w' => e = .returned (.int .i64 (orI zs)) ∧ (w.alloc (.cells (ivals zs).toArray 3)) = w' :=
  or_calls zs n w.heap.size n _ hn hc (fun j hj => (Blk.new w (ivals zs) 3).cell j (by
    have h : j < zs.length := by omega
    simp [ivals, List.getElem?_map, List.getElem?_eq_getElem h]))

set_option maxHeartbeats 4000000 in
theorem compare_of (a b : Nm) (c : Int) (w : World) (hl : ∀ w, Calls Tryz.prog 85 #[.string a.owner, .string b.owner] w fun e w' => e = .returned (.int .i64 c) ∧ Below w.heap.size w w') :
    Calls Tryz.prog 44 #[nmV a, nmV b] w fun e w' => e = .returned (.int .i64 (cmpN a b c)) ∧ Below w.heap.size w w' := by
  have HL := Lib.hid hl
  clear hl
  have HN := Lib.hid (n2_new w a b)
  go_enter Tryz.func44, Tryz.ntmps44
  go_wp2_with fail
  obtain ⟨w2, hw2⟩ : ∃ w2, w2 = ((w.alloc (.cells #[.int .i64 a.kind, .string a.owner, .int .i64 a.num, .int .i64 a.idx, .string a.text] 34)).alloc (.cells #[.int .i64 b.kind, .string b.owner, .int .i64 b.num, .int .i64 b.idx, .string b.text] 34)) := ⟨_, rfl⟩
  rw [← hw2] at HN ⊢
  clear hw2
  have p0 := HN.out.ba.cell 0 rfl
  have p1 := HN.out.ba.cell 1 rfl
  have p2 := HN.out.ba.cell 2 rfl
  have p3 := HN.out.ba.cell 3 rfl
  have p4 := HN.out.ba.cell 4 rfl
  have r0 := HN.out.bb.cell 0 rfl
  have r1 := HN.out.bb.cell 1 rfl
  have r2 := HN.out.bb.cell 2 rfl
  have r3 := HN.out.bb.cell 3 rfl
  have r4 := HN.out.bb.cell 4 rfl
  go_region_held3 (fun w' => w'.cell? ⟨w.heap.size, 0, none⟩ = some (.int .i64 a.kind) ∧ w'.cell? ⟨w.heap.size, 1, none⟩ = some (.string a.owner) ∧ w'.cell? ⟨w.heap.size, 2, none⟩ = some (.int .i64 a.num) ∧ w'.cell? ⟨w.heap.size, 3, none⟩ = some (.int .i64 a.idx) ∧ w'.cell? ⟨w.heap.size, 4, none⟩ = some (.string a.text) ∧ w'.cell? ⟨w.heap.size + 1, 0, none⟩ = some (.int .i64 b.kind) ∧ w'.cell? ⟨w.heap.size + 1, 1, none⟩ = some (.string b.owner) ∧ w'.cell? ⟨w.heap.size + 1, 2, none⟩ = some (.int .i64 b.num) ∧ w'.cell? ⟨w.heap.size + 1, 3, none⟩ = some (.int .i64 b.idx) ∧ w'.cell? ⟨w.heap.size + 1, 4, none⟩ = some (.string b.text)) (first | (refine ⟨?_, ?_, ?_, ?_, ?_, ?_, ?_, ?_, ?_, ?_⟩ <;> (first | (with_reducible assumption))) | go_keep)
    ((first
      | (go_at_call 84; (with_reducible refine (cmpInt_calls _ _ _).mono ?_); rintro e w7 ⟨rfl, rfl⟩)
      | (go_at_call 86; (with_reducible refine (strCompare_calls _ _ _).mono ?_); rintro e w7 ⟨rfl, rfl⟩)
      | (go_at_call 85; (with_reducible refine (HL.out _).mono ?_); rintro e w7 ⟨rfl, hb⟩; have HN := Lib.hid (N2.later (w := w2.drew) ⟨HN.out.ba.drew, HN.out.bb.drew, HN.out.bel.trans (qm_drew _ _)⟩ hb); have p0 := HN.out.ba.cell 0 rfl; have p1 := HN.out.ba.cell 1 rfl; have p2 := HN.out.ba.cell 2 rfl; have p3 := HN.out.ba.cell 3 rfl; have p4 := HN.out.ba.cell 4 rfl; have r0 := HN.out.bb.cell 0 rfl; have r1 := HN.out.bb.cell 1 rfl; have r2 := HN.out.bb.cell 2 rfl; have r3 := HN.out.bb.cell 3 rfl; have r4 := HN.out.bb.cell 4 rfl; clear hb)
      | (go_at_call 83; (refine (or_new _ [cmpI a.kind b.kind, c, cmpI a.num b.num, cmpI a.idx b.idx, Lib.compareBytes a.text.data.toList b.text.data.toList] 5 rfl (by omega)).mono ?_); rintro e w7 ⟨rfl, rfl⟩)))
  go_wp2
  go_ret
  exact ⟨rfl, HN.out.bel.alloc HN.out.bel.size _⟩

theorem compare_clock (w : World) : Calls Tryz.prog 44 #[nmV clockN, nmV clockN] w fun e w' => e = .returned (.int .i64 0) ∧ Below w.heap.size w w' :=
  compare_of clockN clockN 0 w (fun w => lineageCompare_empty w)
end Go.Proofs.YtapkboadkbnjaaaGreatDoor
