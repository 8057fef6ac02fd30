/- 'replevinlaw26.AccessTwice': the row and its tied card, proved: whatever the input: true; the input reads as it did. -/
import Derived.Test.YtkjmmpdmbdimoaaDoorRC
import Derived.Test.YtkjmmpdmbdimoaaDoorLtwice
import Derived.SevenTiedAt
import Derived.ChangeMaps5
namespace Go.Proofs.YtkjmmpdmbdimoaaDoor
open Go.ChangeShapes Go.WideShapes Go.ChangeAt Go.RowKit Go.ChangeMaps

set_option maxRecDepth 100000 in
theorem accessTwice_lifted (os : Os) (started : os.Started) (H : Type) (enc : TypeId × Value → H) :
    ReturnsInHanded {} Tryd.checked os 4 .any (fun w args => (Rows.accessTwiceSpec.pre enc Tryd.prog Tryd.f4 [] false w args ∧ laidMet Tryd.prog [("replevin/access.shifts", Rows.laid_replevin_access_shifts)] w) ∧ sizedMet enc Tryd.prog Tryd.f4 (OpenSpec.ofChange Rows.accessTwiceSpec) false w args)
      (Rows.accessTwiceSpec.post enc Tryd.prog Tryd.f4 false true false false) := by
  refine returnsInHanded_of_change_and (C := Tryd.checked) (X := fun w _ => laidMet Tryd.prog [("replevin/access.shifts", Rows.laid_replevin_access_shifts)] w) (fun _ _ _ hh h => h.of_heap hh) rc_own started (by kernel_rfl) Tryd.func4
    (ChangeSpec.witness_at (enc := enc) (C := Tryd.checked) (os := os) (X := fun w _ => laidMet Tryd.prog [("replevin/access.shifts", Rows.laid_replevin_access_shifts)] w) false (rcWorld os)
      #[.int .u16 0, .string ⟨#[]⟩] 8 (World.laidAll_os _ _ _) (by kernel_rfl) (by kernel_rfl) (by kernel_rfl) (by kernel_rfl) (by kernel_rfl) (rcWorld_met os _)) ?_
  intro W base args ds gs before hval0 hW _ _ hL _
  have hval : ∀ (j : Nat) t v, Tryd.f4.params[j]? = some t → args[j]? = some v → Value.okWide Tryd.prog W .any base t v := hval0
  have hW' := hW
  obtain ⟨p, q, hA0, hV, rfl, hfz, hnd⟩ := hW
  have hA : DataW.TrodAll enc Tryd.prog W 0 (fun _ => true) true Tryd.f4.params.toList args.toList ds p := hA0
  rw [Tryd.params4] at hA hval
  obtain ⟨v0, vs0, d0, ds0, p0, q0, hargs, rfl, rfl, h0, r0⟩ := trodAll_cons hA
  obtain ⟨v1, vs1, d1, ds1, p1, q1, rfl, rfl, rfl, h1, r1⟩ := trodAll_cons r0
  obtain ⟨rfl, rfl, rfl⟩ := trodAll_nil r1
  obtain rfl : args = #[v0, v1] := by cases args; simp_all
  obtain ⟨rfl, rfl⟩ := trodVars_none hV
  have lt0 : ∀ x ∈ p0, x.block < W.heap.size := by obtain ⟨m, hm⟩ := h0; exact DataW.trod_lt m _ _ _ hm
  have lt1 : ∀ x ∈ p1, x.block < W.heap.size := by obtain ⟨m, hm⟩ := h1; exact DataW.trod_lt m _ _ _ hm
  obtain ⟨x0, rfl, -, -, w0⟩ := open_int Tryd.underlying35 (hval 0 35 v0 rfl rfl) h0
  simp only [Lit.wf, Bool.and_eq_true, decide_eq_true_eq] at w0
  rw [show IntKind.u16.min = 0 from rfl, show IntKind.u16.max = 65535 from rfl] at w0
  obtain ⟨s1, rfl, -, -, z1⟩ := open_string Tryd.underlying9 (hval 1 9 v1 rfl rfl) h1
  have hS := shifts_of_laid hL
  clear hA0 hval0
  refine (twice_calls x0 s1 W hS w0.1 w0.2 z1).mono fun e W' ⟨he, bel⟩ => ?_
  subst he
  exact ⟨_, rfl, _, _, _, [], _, [], hW', trodAll_mk1 (shut_bool Tryd.underlying4 _), (trodAll_cons_mk (Below.trod rc_laidOut (by kernel_rfl) (of_decide_eq_true (by kernel_rfl)) h0 bel lt0) (trodAll_cons_mk (Below.trod rc_laidOut (by kernel_rfl) (of_decide_eq_true (by kernel_rfl)) h1 bel lt1) trodAll_mk0)), rfl, bel.frame _, fun h => by cases h⟩

theorem accessTwice_holds : Rows.AccessTwiceSaid :=
  OpenClaim.holds_of_wide 4 Tryd.f4 rfl rfl rfl rfl rfl rfl rfl ⟨rfl, rfl, rfl, rfl, rfl⟩ rfl rfl rfl rfl rfl (by kernel_rfl) Tryd.func4 (by kernel_rfl)
    (of_decide_eq_true (by kernel_rfl)) (by unfold Func.isWrapper; rw [if_neg (by decide +kernel)]; exact ⟨rfl, rfl⟩)
    (fun os started H enc _ => accessTwice_lifted os started H enc)

/-- The statement: the tied card. -/
theorem accessTwice_card : Rows.AccessTwiceCardSaid :=
  Claim7.holds_tied_plain_at .later [] [.data] true (true, "52be412b99aa43451750e5badab76427a1614796fc38659630b6a025f9ba2ad6") false
    accessTwice_holds (fun _ h => by cases h) (by kernel_rfl) (fun _ h => by cases h) accessTwice_row_tie rfl ⟨rfl, rfl⟩ (by kernel_rfl) rfl
    (fun f fn hf hfn => by
      obtain rfl : f = 4 := Option.some.inj ((show Tryd.prog.funcNamed "replevin/replevinlaw26.AccessTwice" = some 4 by kernel_rfl).symm.trans hf) |>.symm
      obtain rfl : fn = Tryd.f4 := (Option.some.inj (Tryd.func4.symm.trans hfn)).symm
      exact ⟨by kernel_rfl, fun j t ht => by
        rw [Tryd.params4] at ht
        rcases j with _ | _ | j
        · obtain rfl : 35 = t := by simpa using ht
          exact (show Tryd.prog.wantsStandIn 35 = false by kernel_rfl)
        · obtain rfl : 9 = t := by simpa using ht
          exact (show Tryd.prog.wantsStandIn 9 = false by kernel_rfl)
        · simp at ht⟩)
    (by kernel_rfl)
#print axioms accessTwice_card

end Go.Proofs.YtkjmmpdmbdimoaaDoor
