/- To, at one change. -/
import Derived.Test.YtapkboadkbnjaaaGreatDoorR1
import Derived.BigRegion
import Derived.Deep.AppendLies
import Derived.Deep.RegionHeld3
namespace Go.Proofs.YtapkboadkbnjaaaGreatDoor
open Go.RowKit Go.Own
set_option maxRecDepth 100000

theorem to04_calls (n : Nm) (w : World) : Calls Tryz.prog 16 #[nmV n] w fun e w' => e = .returned (nmV n) ∧ Below w.heap.size w w' := by
  go_enter Tryz.func16, Tryz.ntmps16
  go_wp2
  refine bodyPost_ret (v := nmV n) (by simp [results, Tryz.results16, go_sem]) rfl ?_
  exact ⟨rfl, ((Below.refl _ w).alloc (Nat.le_refl _) _).alloc (by simp) _⟩

theorem info52 : (Tryz.prog.info? 52).map (fun i => (i.zero, i.size, i.bytes)) = some (some (.agg #[.int .i64 0, .string ⟨#[]⟩, .int .i64 0, .int .i64 0, .string ⟨#[]⟩, .string ⟨#[]⟩, .bool false]), 7, 80) := by kernel_rfl
theorem info54 : (Tryz.prog.info? 54).map (fun i => (i.zero, i.size, i.bytes)) = some (some (.agg #[.int .i64 0, .string ⟨#[]⟩, .int .i64 0, .int .i64 0, .string ⟨#[]⟩, .string ⟨#[]⟩, .bool false]), 7, 80) := by kernel_rfl
theorem add0 (g j : Nat) : (⟨g, 0, none⟩ : Addr).add j = ⟨g, j, none⟩ := by unfold Addr.add; split <;> simp_all

/-- append of one element to a nil slice, in a region that draws. -/
theorem step_app1 {ops : Array Oper} {dst : Option Tmp} {ty : TypeId} {pos : String} {after : Array Edge} {a : Act} {K : Act → World → Prop} {Q : Exit → Act → World → Prop} {E : Prop} {s x : Operand} {wr : World} (cs : List Value)
    (hs : a.eval s = .slice none 0 0) (hx : a.eval x = .slice (some ⟨wr.heap.size, 0, none⟩) 1 1) (hl : cs.length = 7) (h1 : ∀ u ∈ cs, u.oneCell' = true)
    (hK : ∀ g cap w', (∀ j u, cs[j]? = some u → w'.cell? ⟨g, j, none⟩ = some u) → g < w'.heap.size → Below wr.heap.size wr w' → K (a.put dst (.slice (some ⟨g, 0, none⟩) 1 cap)) w') :
    if Region.wanted { dst := dst, op := .call { callee := .builtin .append, args := #[s, x], argTypes := #[46, 46] }, type := ty, pos := pos, after := after, guard := none } (yielded ops a.tmps) = true then
      Oper.wp Tryz.prog { dst := dst, op := .call { callee := .builtin .append, args := #[s, x], argTypes := #[46, 46] }, type := ty, pos := pos, after := after, guard := none } a (wr.alloc (.cells cs.toArray 52)) K Q else E := by
  obtain ⟨i, hi, hz0, hz1, hz2⟩ := info_parts info52
  have hb := bel1 wr (.cells cs.toArray 52)
  refine step_append_lies _ rfl s x 46 rfl wr.heap.size 52 i _ 7 80 Tryz.underlying46 hi hz0 hz1 hz2 rfl (by decide) _ 0 [] hs (World.ownsRow_nil _ _ _ _) ⟨wr.heap.size, 0, none⟩ 1 1 cs hx (by omega) (fun j u hu => by rw [add0]; exact (Blk.new wr cs 52).cell j hu) h1 (by omega) (by unfold maxLen; omega) (by omega) (by rw [World.size_alloc]; omega) _ rfl ?_
  intro g cap w' ho hg _ hlt
  refine hK g cap w' (fun j u hu => ?_) hlt (Below.grown hb hg (by rw [World.size_alloc]; omega) (fun q e => by cases e))
  have := World.ownsRow.cells ho (g := g) rfl j u (by simpa using hu)
  rw [add0] at this
  exact this

abbrev chgC (n : Nm) (v : ByteArray) (b : Bool) : List Value := [.int .i64 n.kind, .string n.owner, .int .i64 n.num, .int .i64 n.idx, .string n.text, .string v, .bool b]
def ToPost (w : World) (e : Ending) (w' : World) : Prop :=
  ∃ g cap own, ∃ m : Nm, e = .returned (.tuple #[.slice (some ⟨g, 0, none⟩) 1 cap, own]) ∧ g < w'.heap.size ∧ w'.cell? ⟨g, 0, none⟩ = some (.int .i64 m.kind) ∧ w'.cell? ⟨g, 1, none⟩ = some (.string m.owner) ∧ w'.cell? ⟨g, 2, none⟩ = some (.int .i64 m.num) ∧ w'.cell? ⟨g, 3, none⟩ = some (.int .i64 m.idx) ∧ w'.cell? ⟨g, 4, none⟩ = some (.string m.text) ∧ Below w.heap.size w w'

set_option maxHeartbeats 4000000 in
theorem to_one (n : Nm) (v : ByteArray) (ab : Bool) (x : Nat) (w : World) (hx : Blk w x (chgC n v ab) 54) (hv : v.size ≤ 9223372036854775807) (ho : n.owner.size ≤ 9223372036854775807) (ht : n.text.size ≤ 9223372036854775807) :
    Calls Tryz.prog 21 #[.slice (some ⟨x, 0, none⟩) 1 1] w (ToPost w) := by
  have q0 := hx.cell 0 rfl
  have q1 := hx.cell 1 rfl
  have q2 := hx.cell 2 rfl
  have q3 := hx.cell 3 rfl
  have q4 := hx.cell 4 rfl
  have q5 := hx.cell 5 rfl
  have q6 := hx.cell 6 rfl
  clear hx
  go_enter Tryz.func21, Tryz.ntmps21
  go_wp2_with fail
  go_loopw [4, 5, 6] (fun o l i wr => (o = .slice none 0 0 ∧ l = .slice none 0 0 ∧ i = .int .i64 0 ∧ wr = w) ∨ (i = .int .i64 1 ∧ Hid (∃ own, ToPost w (.returned (.tuple #[o, own])) wr))) (fun _ _ i _ => 2 - (intOf i).toNat)
  case atStart => exact .inl ⟨rfl, rfl, rfl, rfl⟩
  case round =>
    rcases hrel with ⟨rfl, rfl, rfl, rfl⟩ | ⟨rfl, hT⟩
    · obtain ⟨w, rfl⟩ : ∃ w', w' = wr := ⟨_, rfl⟩
      go_wp2_with fail
      have b0 := Blk.new w (chgC n (v.extract 0 (min (v.size : Int) 200).toNat) ab) 54
      obtain ⟨v', hv'⟩ : ∃ v', v' = v.extract 0 (min (v.size : Int) 200).toNat := ⟨_, rfl⟩
      rw [← hv'] at b0 ⊢
      have X := bel1 w (.cells #[.int .i64 n.kind, .string n.owner, .int .i64 n.num, .int .i64 n.idx, .string n.text, .string v', .bool ab] 54)
      obtain ⟨w6, hw6⟩ : ∃ w6, w6 = w.alloc (.cells #[.int .i64 n.kind, .string n.owner, .int .i64 n.num, .int .i64 n.idx, .string n.text, .string v', .bool ab] 54) := ⟨_, rfl⟩
      have B0 : Blk w6 w.heap.size (chgC n v' ab) 54 := by rw [hw6]; exact b0
      rw [← hw6] at X ⊢
      clear hw6 b0 hv' q0 q1 q2 q3 q4 q5 q6
      have q0 := B0.cell 0 rfl
      have q1 := B0.cell 1 rfl
      have q2 := B0.cell 2 rfl
      have q3 := B0.cell 3 rfl
      have q4 := B0.cell 4 rfl
      have f1 := B0.free 1
      have f4 := B0.free 4
      go_region
      obtain ⟨m, hm⟩ : ∃ m : Nm, m = ⟨n.kind, n.owner.extract 0 (min (n.owner.size : Int) 100).toNat, n.num, n.idx, n.text.extract 0 (min (n.text.size : Int) 100).toNat⟩ := ⟨_, rfl⟩
      obtain ⟨w8, hw8⟩ : ∃ w8, w8 = ((w6.setCell ⟨w.heap.size, 1, none⟩ (.string (n.owner.extract 0 (min (n.owner.size : Int) 100).toNat))).setCell ⟨w.heap.size, 4, none⟩ (.string (n.text.extract 0 (min (n.text.size : Int) 100).toNat))).drew := ⟨_, rfl⟩
      have B8 : Blk w8 w.heap.size (chgC m v' ab) 54 := by rw [hw8, hm]; exact ((B0.set 1 _).set 4 _).drew
      have X8 : Below w.heap.size w w8 := by rw [hw8]; exact ((X.setCell (p := ⟨w.heap.size, 1, none⟩) (Nat.le_refl _) _).setCell (p := ⟨w.heap.size, 4, none⟩) (Nat.le_refl _) _).trans (qm_drew _ _)
      have HM := Lib.hid hm
      rw [← hw8]
      clear hw8 q0 q1 q2 q3 q4 f1 f4 B0 X hm
      have q0 := B8.cell 0 rfl
      have q1 := B8.cell 1 rfl
      have q2 := B8.cell 2 rfl
      have q3 := B8.cell 3 rfl
      have q4 := B8.cell 4 rfl
      have q5 := B8.cell 5 rfl
      have q6 := B8.cell 6 rfl
      have HB8 := Lib.hid B8
      have HX8 := Lib.hid X8
      clear B8 X8
      go_upto_region 10 with (at_builtin; refine wpList_append1 w.heap.size 54 7 80 _ Tryz.underlying22 info54 rfl (by decide) (by rfl) (World.ownsRow_nil _ _ _ _) (by rfl) (chgC m v' ab) (Blk.new w8 (chgC m v' ab) 54) rfl (by intro u hu; simp only [List.mem_cons, List.not_mem_nil, or_false] at hu; rcases hu with rfl | rfl | rfl | rfl | rfl | rfl | rfl <;> rfl) (by omega) (by decide) (by rw [World.size_alloc]; have := HX8.out.size; omega) ?_; intro vo w9 ho9 hg9; have B9 := (HB8.out.alloc (.cells (chgC m v' ab).toArray 54)).grown hg9 (by simp [Value.ownBlock]); have X9 := Below.grown (HX8.out.alloc HX8.out.size (.cells (chgC m v' ab).toArray 54)) hg9 (by rw [World.size_alloc]; have := HX8.out.size; omega) (fun q e => by cases e))
      clear hg9 ho9 q0 q1 q2 q3 q4 q5 q6
      have B9 := Lib.hid B9
      have X9 := Lib.hid X9
      have q0 := B9.out.cell 0 rfl
      have q1 := B9.out.cell 1 rfl
      have q2 := B9.out.cell 2 rfl
      have q3 := B9.out.cell 3 rfl
      have q4 := B9.out.cell 4 rfl
      have q5 := B9.out.cell 5 rfl
      have q6 := B9.out.cell 6 rfl
      go_region_held3 (fun w' => w'.cell? ⟨w.heap.size, 0, none⟩ = some (.int .i64 m.kind) ∧ w'.cell? ⟨w.heap.size, 1, none⟩ = some (.string m.owner) ∧ w'.cell? ⟨w.heap.size, 2, none⟩ = some (.int .i64 m.num) ∧ w'.cell? ⟨w.heap.size, 3, none⟩ = some (.int .i64 m.idx) ∧ w'.cell? ⟨w.heap.size, 4, none⟩ = some (.string m.text) ∧ w'.cell? ⟨w.heap.size, 5, none⟩ = some (.string v') ∧ w'.cell? ⟨w.heap.size, 6, none⟩ = some (.bool ab)) (first | (refine ⟨?_, ?_, ?_, ?_, ?_, ?_, ?_⟩ <;> (first | (with_reducible assumption))) | go_keep)
        ((first
          | (go_at_call 16; (with_reducible refine (to04_calls m _).mono ?_); rintro e w10 ⟨rfl, hb⟩; have B9 := Lib.hid (B9.out.drew.below hb B9.out.lt); have X9 := Lib.hid (bel_then (X9.out.trans (qm_drew _ _)) X9.out.size hb); clear hb; have q0 := B9.out.cell 0 rfl; have q1 := B9.out.cell 1 rfl; have q2 := B9.out.cell 2 rfl; have q3 := B9.out.cell 3 rfl; have q4 := B9.out.cell 4 rfl; have q5 := B9.out.cell 5 rfl; have q6 := B9.out.cell 6 rfl)
          | (refine step_app1 (chgC m v' ab) (by rfl) (by rfl) rfl (by intro u hu; simp only [List.mem_cons, List.not_mem_nil, or_false] at hu; rcases hu with rfl | rfl | rfl | rfl | rfl | rfl | rfl <;> rfl) ?_; intro g cap w11 hg hlt hb11; have HG := Lib.hid (And.intro (hg 0 _ rfl) (And.intro (hg 1 _ rfl) (And.intro (hg 2 _ rfl) (And.intro (hg 3 _ rfl) (And.intro (hg 4 _ rfl) hlt))))); have X11 := Lib.hid (bel_then X9.out X9.out.size hb11); have B11 := B9.out.below hb11 B9.out.lt; clear hg hlt hb11; have q0 := B11.cell 0 rfl; have q1 := B11.cell 1 rfl; have q2 := B11.cell 2 rfl; have q3 := B11.cell 3 rfl; have q4 := B11.cell 4 rfl; have q5 := B11.cell 5 rfl; have q6 := B11.cell 6 rfl; clear B11)))
      go_wp2
      exact ⟨.inr ⟨rfl, vo, g, cap, vo, m, rfl, HG.out.2.2.2.2.2, HG.out.1, HG.out.2.1, HG.out.2.2.1, HG.out.2.2.2.1, HG.out.2.2.2.2.1, X11.out⟩, by simp [intOf]⟩
    · obtain ⟨own, g, cap, own', m, he, hrest⟩ := hT.out
      have e1 : u4 = .slice (some ⟨g, 0, none⟩) 1 cap := by
        have h := he
        simp at h
        exact h.1
      subst e1
      have HR := Lib.hid hrest
      clear he hrest hT
      go_wp2
      go_ret2
      exact ⟨g, cap, _, m, rfl, HR.out⟩
end Go.Proofs.YtapkboadkbnjaaaGreatDoor
