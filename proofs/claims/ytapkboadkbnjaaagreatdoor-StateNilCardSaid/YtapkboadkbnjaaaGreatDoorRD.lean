/- What the rows of this seat have in common: a card of a row that starts goroutines, the rows' forms, one change of the reference opened. -/
import Derived.Test.YtapkboadkbnjaaaGreatDoorW2
import Derived.Test.YtapkboadkbnjaaaGreatDoorRows
import Derived.Test.YtapkboadkbnjaaaGreatDoorTie
import Derived.Test.YtapkboadkbnjaaaGreatDoorCards
import Derived.ProofKit
import Derived.Handed
import Derived.Lay
import Derived.Lib.SmallJoins
import Derived.ChangeSlices
import Derived.ChangeVars
import Derived.ChangeMaps5
import Derived.SevenTiedAt
import Derived.Conc.LeavingOf
import Derived.Conc.Holds
import Derived.Leaving
namespace Go.Proofs.YtapkboadkbnjaaaGreatDoor
open Go.ChangeShapes Go.WideShapes Go.ChangeAt Go.RowKit Go.Lib Go.Joins Go.ChangeMaps

theorem rd_own : ownKnob Tryz.prog.godebug = none := by kernel_rfl
theorem rd_laidOut : laidOutB Tryz.prog = true := by kernel_rfl
theorem rd_cells3 : Tryz.prog.cellsOf 3 = 1 := by kernel_rfl
theorem rd_cells4 : Tryz.prog.cellsOf 4 = 1 := by kernel_rfl
theorem rd_cells9 : Tryz.prog.cellsOf 9 = 1 := by kernel_rfl
theorem rd_cells24 : Tryz.prog.cellsOf 24 = 5 := by kernel_rfl
theorem rd_cells54 : Tryz.prog.cellsOf 54 = 7 := by kernel_rfl

/-- A call of one goroutine alone: the row that says 'leaving' follows from the plain one. -/
theorem leaving_of_handed {a : Assume} {C : Checked} {os : Os} {f : FuncId} {r : Reach} {Pre : World → Array Value → Prop} {Post : World → Array Value → Value → World → Prop}
    (h : ReturnsInHanded a C os f r Pre Post) : ReturnsInLeavingWide a C os f r Pre Post :=
  fun enter => ReturnsInOpen.mono (fun _ _ _ ⟨q, hh, he⟩ => ⟨hh, onlyLeaving_of_quiet q, he⟩) (fun _ x => x) (h enter)

/-- A tied card without a companion, whatever its mark of goroutines. -/
theorem tied_goes (Lk : Looks) {p : Pinned} {s : OpenSpec} {c : OpenClaim} (kinds : List LaidKind) (tests : Bool) (har : Bool × String) (lk g : Bool)
    (hc : c.holds p s) (hw : c.wfByText s = true)
    (htie : c.laidByTextAt Lk p kinds tests)
    (hst : c.start = .entering) (hnb : c.noBlocks = false ∧ c.again = false) (hm : p.checked.prog.mainIs = some (har.1, har.2.toList)) (hn : (!har.1 && har.2.isEmpty && !lk) = false)
    (hl : ∀ f fn, p.checked.prog.funcNamed c.func = some f → p.checked.prog.funcs[f]? = some fn → lk = p.checked.prog.looks [] ∧ ∀ (j : Nat) t, fn.params[j]? = some t → p.checked.prog.wantsStandIn t = false)
    (hg : g = c.goesBy p.checked.prog) :
    Claim7.holds p (.plain s) { stood := { row := c, standIns := [], harness := har, looks := lk }, kinds := [], alts := [], goes := g, laidByText := true, laidKinds := kinds, laidTests := tests, laidLooks := Lk } := by
  have h6 : ∀ r : OpenClaim, Claim7.isSixth { stood := { row := r, standIns := [], harness := har, looks := lk }, kinds := [] } = false := fun r => by simpa [Claim7.isSixth] using hn
  exact ⟨Claim7.tied_new_at Lk kinds tests (Claim7.new_of_sixth hc har lk hst hnb hm (h6 c) hl) hw, fun D hD => (by cases hD), htie, (fun h => by cases h), hg⟩

theorem array7 {α : Type} {cs : Array α} (h : cs.size = 7) : ∃ c0 c1 c2 c3 c4 c5 c6, cs = #[c0, c1, c2, c3, c4, c5, c6] := by
  obtain ⟨l⟩ := cs
  match l, h with
  | [c0, c1, c2, c3, c4, c5, c6], _ => exact ⟨c0, c1, c2, c3, c4, c5, c6, rfl⟩

section
variable {H : Type} {enc : TypeId × Value → H} {w : World} {sp : Nat → Bool} {held : Bool}

/-- The five cells of a name. -/
theorem open_name5 {fuel base : Nat} {c0 c1 c2 c3 c4 : Value} {y : DataW H × List MemPlace} (h : DataW.trod enc Tryz.prog w base sp held fuel 24 [c0, c1, c2, c3, c4] = some y) :
    ∃ n : Nm, c0 = .int .i64 n.kind ∧ c1 = .string n.owner ∧ c2 = .int .i64 n.num ∧ c3 = .int .i64 n.idx ∧ c4 = .string n.text ∧ (Lit.int .i64 n.kind).wf = true ∧ (Lit.int .i64 n.num).wf = true ∧ (Lit.int .i64 n.idx).wf = true ∧ n.owner.size ≤ 9223372036854775807 ∧ n.text.size ≤ 9223372036854775807 := by
  obtain ⟨xs, m, _, _, _, hl, hx⟩ := DataW.trod_struct Tryz.underlying24 h
  have h0 := hx 0 ⟨"Kind", 3, 0, false, "", "", 0⟩ rfl
  have h1 := hx 1 ⟨"Owner", 9, 1, false, "", "", 8⟩ rfl
  have h2 := hx 2 ⟨"Number", 3, 2, false, "", "", 24⟩ rfl
  have h3 := hx 3 ⟨"Index", 3, 3, false, "", "", 32⟩ rfl
  have h4 := hx 4 ⟨"Text", 9, 4, false, "", "", 40⟩ rfl
  simp only [rd_cells3, rd_cells9] at h0 h1 h2 h3 h4
  match xs, hl with
  | [y0, y1, y2, y3, y4], _ =>
    obtain ⟨a0, e0, _, w0⟩ := DataW.trod_int (x := y0) Tryz.underlying3 (by simpa using h0)
    obtain ⟨a1, e1, _, w1⟩ := DataW.trod_string (x := y1) Tryz.underlying9 (by simpa using h1)
    obtain ⟨a2, e2, _, w2⟩ := DataW.trod_int (x := y2) Tryz.underlying3 (by simpa using h2)
    obtain ⟨a3, e3, _, w3⟩ := DataW.trod_int (x := y3) Tryz.underlying3 (by simpa using h3)
    obtain ⟨a4, e4, _, w4⟩ := DataW.trod_string (x := y4) Tryz.underlying9 (by simpa using h4)
    simp at e0 e1 e2 e3 e4
    exact ⟨⟨a0, a1, a2, a3, a4⟩, e0, e1, e2, e3, e4, w0, w2, w3, w1, w4⟩

/-- The seven cells of a change of the reference. -/
theorem open_c7 {fuel base : Nat} {c0 c1 c2 c3 c4 c5 c6 : Value} {y : DataW H × List MemPlace} (h : DataW.trod enc Tryz.prog w base sp held fuel 54 [c0, c1, c2, c3, c4, c5, c6] = some y) :
    ∃ (n : Nm) (v : ByteArray) (ab : Bool), c0 = .int .i64 n.kind ∧ c1 = .string n.owner ∧ c2 = .int .i64 n.num ∧ c3 = .int .i64 n.idx ∧ c4 = .string n.text ∧ c5 = .string v ∧ c6 = .bool ab ∧ (Lit.int .i64 n.kind).wf = true ∧ (Lit.int .i64 n.num).wf = true ∧ (Lit.int .i64 n.idx).wf = true ∧ n.owner.size ≤ 9223372036854775807 ∧ n.text.size ≤ 9223372036854775807 ∧ v.size ≤ 9223372036854775807 := by
  obtain ⟨xs, m, _, _, _, hl, hx⟩ := DataW.trod_struct Tryz.underlying54 h
  have h0 := hx 0 ⟨"Name", 24, 0, false, "", "", 0⟩ rfl
  have h1 := hx 1 ⟨"Value", 9, 5, false, "", "", 56⟩ rfl
  have h2 := hx 2 ⟨"Absent", 4, 6, false, "", "", 72⟩ rfl
  simp only [rd_cells24, rd_cells9, rd_cells4] at h0 h1 h2
  match xs, hl with
  | [y0, y1, y2], _ =>
    obtain ⟨n, e0, e1, e2, e3, e4, w0, w1, w2, w3, w4⟩ := open_name5 (y := y0) (by simpa using h0)
    obtain ⟨v, e5, _, w5⟩ := DataW.trod_string (x := y1) Tryz.underlying9 (by simpa using h1)
    obtain ⟨b, e6, _⟩ := DataW.trod_bool (x := y2) Tryz.underlying4 (by simpa using h2)
    simp at e5 e6
    exact ⟨n, v, b, e0, e1, e2, e3, e4, e5, e6, w0, w1, w2, w3, w4, w5⟩

set_option maxRecDepth 100000 in
theorem open_c {r : Reach} {b0 base : Nat} {v : Value} {d : DataW H} {p : List MemPlace} (hv : Value.okWide Tryz.prog w r b0 54 v) (h : DataW.Trod enc Tryz.prog w base sp held 54 v d p) :
    ∃ (n : Nm) (x : ByteArray) (ab : Bool), v = .agg #[.int .i64 n.kind, .string n.owner, .int .i64 n.num, .int .i64 n.idx, .string n.text, .string x, .bool ab] ∧ n.owner.size ≤ 9223372036854775807 ∧ n.text.size ≤ 9223372036854775807 ∧ x.size ≤ 9223372036854775807 := by
  obtain ⟨cs, rfl, hsz⟩ := okWide_struct Tryz.underlying54 hv
  obtain ⟨c0, c1, c2, c3, c4, c5, c6, rfl⟩ := array7 (hsz.trans rd_cells54)
  obtain ⟨fuel, hf⟩ := h
  obtain ⟨n, x, ab, rfl, rfl, rfl, rfl, rfl, rfl, rfl, _, _, _, a, b, c⟩ := open_c7 (y := (d, p)) hf
  exact ⟨n, x, ab, rfl, a, b, c⟩
end
end Go.Proofs.YtapkboadkbnjaaaGreatDoor
