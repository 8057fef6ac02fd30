/- The contract of the reference's Text; Text at what is no mode. -/
import Derived.Test.YtkjmmpdmbdimoaaDoorA9
import Derived.Test.YtkjmmpdmbdimoaaDoorA5
namespace Go.Proofs.YtkjmmpdmbdimoaaDoor
open Go.RowKit Go.Own

theorem text_no (m : Int) (w : World) (hv : validB m = false) : Calls Tryd.prog 20 #[.int .i64 m] w fun e w' => e = .returned (.tuple #[.string ⟨#[]⟩, .int .i64 2]) ∧ Below w.heap.size w w' := by
  go_enter Tryd.func20, Tryd.ntmps20
  go_wp2_with (go_at_call 23; refine (valid_calls _ _).mono ?_; rintro e w' ⟨rfl, rfl⟩)
  go_ret2
  exact ⟨rfl, Below.refl _ _⟩

theorem info5 : (Tryd.prog.info? 5).map (fun i => (i.zero, i.size, i.bytes)) = some (some (.int .u8 0), 1, 1) := by kernel_rfl

theorem wpList_append_byte {wr : World} {ops : Array Oper} {rest : List Oper} {dst : Option Tmp} {ty : TypeId} {pos : String} {after : Array Edge} {a : Act} {Q : Exit → Act → World → Prop} {s x : Operand} (B : Nat)
    {v : Value} (hs : a.eval s = v) {n : Nat} {xs : List Value} (hown : wr.ownsRow B 5 1 v n xs) (y : Int) {c : Nat} (hx : a.eval x = .slice (some ⟨wr.heap.size, 0, none⟩) 1 c) (hn : n ≤ 9) (hB : B ≤ wr.heap.size)
    (h : ∀ v' w', w'.ownsRow B 5 1 v' (n + 1) (xs ++ [.int .u8 y]) → Below B wr w' → wpList Tryd.prog ops Q rest (a.put dst v') w') :
    wpList Tryd.prog ops Q ({ dst := dst, op := .call { callee := .builtin .append, args := #[s, x], argTypes := #[69, 69] }, type := ty, pos := pos, after := after, guard := none } :: rest) a (wr.alloc (.cells #[.int .u8 y] 5)) := by
  have hb := (Below.refl B wr).alloc hB (.cells #[.int .u8 y] 5)
  refine wpList_append1 B 5 1 1 _ Tryd.underlying69 info5 rfl (by decide) hs (own_later hown (bel1 wr _)) hx [.int .u8 y] (Blk.new wr [.int .u8 y] 5) rfl (by intro u hu; simp at hu; subst hu; rfl) (by omega) (by decide) (by rw [World.size_alloc]; omega) ?_
  intro v' w1 ho hg
  exact h v' w1 ho (Below.grown hb hg (by rw [World.size_alloc]; omega) (fun q e => (hown.lt q e).1))

theorem bit_all : ∀ m : Fin 2048, ((List.range 9).all fun k => dashB (m : Nat) k == !(bits .and .i64 (((m : Nat) : Int) / 2 ^ (8 - k)) 1 == 1)) = true := by decide +kernel
theorem bit_eq {m : Int} (h0 : 0 ≤ m) (h1 : m ≤ 2047) (k : Nat) (hk : k < 9) : dashB m k = !(bits .and .i64 (m / 2 ^ (8 - k)) 1 == 1) := by
  obtain ⟨j, rfl⟩ := Int.eq_ofNat_of_zero_le h0
  have h := bit_all ⟨j, by omega⟩
  rw [List.all_eq_true] at h
  simpa using h k (List.mem_range.2 hk)
theorem tb_of {m : Int} (h0 : 0 ≤ m) (h1 : m ≤ 2047) (k : Nat) (hk : k < 9) {z : Bool} (h : (bits .and .i64 (m / 2 ^ (8 - k)) 1 == 1) = z) : tb m k = if z = true then baseB k else 45 := by
  have e := bit_eq h0 h1 k hk
  rw [h] at e
  cases z
  · exact tb_dash e
  · exact tb_base e
theorem suid_all' : ∀ m : Fin 2048, (((m : Nat) : Int) / 512 % 2 == 1) = (bits BinOp.and IntKind.i64 (m : Nat) 512 != 0) := by decide +kernel
theorem suid_eq' {m : Int} (h0 : 0 ≤ m) (h1 : m ≤ 2047) : (bits BinOp.and IntKind.i64 m 512 != 0) = (m / 512 % 2 == 1) := by
  obtain ⟨j, rfl⟩ := Int.eq_ofNat_of_zero_le h0
  exact (suid_all' ⟨j, by omega⟩).symm
theorem own_cells {w : World} {B : Nat} {v : Value} {n : Nat} {xs : List Value} (h : w.ownsRow B 5 1 v n xs) (hn : 0 < n) : ∃ g cap, v = .slice (some ⟨g, 0, none⟩) n cap ∧ ∀ j u, xs[j]? = some u → w.cell? ⟨g, j, none⟩ = some u := by
  rcases h.2 with ⟨_, h0⟩ | ⟨g, cap, cur, hv, hb, rest⟩
  · omega
  · refine ⟨g, cap, hv, fun j u hu => ?_⟩
    have hc := World.ownsRow.cells h (g := g) (by rw [hv]; rfl) j u hu
    have hadd : (⟨g, 0, none⟩ : Addr).add j = ⟨g, j, none⟩ := by unfold Addr.add; split <;> simp_all
    rw [hadd] at hc
    exact hc

set_option maxHeartbeats 8000000 in
theorem rtext_calls (m : Int) (w : World) (hv : validB m = true) :
    Calls Tryd.prog 22 #[.int .i64 m] w fun e w' => e = .returned (.string ⟨(textL m).toArray⟩) ∧ Below w.heap.size w w' := by
  obtain ⟨h0, h1⟩ := validB_iff.1 hv
  clear hv
  have T0 := Lib.hid (fun z => tb_of (z := z) h0 h1 0 (by omega))
  have T1 := Lib.hid (fun z => tb_of (z := z) h0 h1 1 (by omega))
  have T2 := Lib.hid (fun z => tb_of (z := z) h0 h1 2 (by omega))
  have T3 := Lib.hid (fun z => tb_of (z := z) h0 h1 3 (by omega))
  have T4 := Lib.hid (fun z => tb_of (z := z) h0 h1 4 (by omega))
  have T5 := Lib.hid (fun z => tb_of (z := z) h0 h1 5 (by omega))
  have T6 := Lib.hid (fun z => tb_of (z := z) h0 h1 6 (by omega))
  have T7 := Lib.hid (fun z => tb_of (z := z) h0 h1 7 (by omega))
  have T8 := Lib.hid (fun z => tb_of (z := z) h0 h1 8 (by omega))
  have S1 := suid_eq' h0 h1
  have S2 := (sticky_eq (validB_iff.2 ⟨h0, h1⟩)).symm
  have HS1 := Lib.hid S1
  have HS2 := Lib.hid S2
  clear S1 S2
  go_enter Tryd.func22, Tryd.ntmps22
  go_wp2
  go_loopw [3, 4] (fun v i wr => Below w.heap.size w wr ∧ ((i = .int .i64 0 ∧ Hid (wr.ownsRow w.heap.size 5 1 v 0 (bvals []))) ∨ (i = .int .i64 1 ∧ Hid (wr.ownsRow w.heap.size 5 1 v 1 (bvals [tb m 0]))) ∨ (i = .int .i64 2 ∧ Hid (wr.ownsRow w.heap.size 5 1 v 2 (bvals [tb m 0, tb m 1]))) ∨ (i = .int .i64 3 ∧ Hid (wr.ownsRow w.heap.size 5 1 v 3 (bvals [tb m 0, tb m 1, tb m 2]))) ∨ (i = .int .i64 4 ∧ Hid (wr.ownsRow w.heap.size 5 1 v 4 (bvals [tb m 0, tb m 1, tb m 2, tb m 3]))) ∨ (i = .int .i64 5 ∧ Hid (wr.ownsRow w.heap.size 5 1 v 5 (bvals [tb m 0, tb m 1, tb m 2, tb m 3, tb m 4]))) ∨ (i = .int .i64 6 ∧ Hid (wr.ownsRow w.heap.size 5 1 v 6 (bvals [tb m 0, tb m 1, tb m 2, tb m 3, tb m 4, tb m 5]))) ∨ (i = .int .i64 7 ∧ Hid (wr.ownsRow w.heap.size 5 1 v 7 (bvals [tb m 0, tb m 1, tb m 2, tb m 3, tb m 4, tb m 5, tb m 6]))) ∨ (i = .int .i64 8 ∧ Hid (wr.ownsRow w.heap.size 5 1 v 8 (bvals [tb m 0, tb m 1, tb m 2, tb m 3, tb m 4, tb m 5, tb m 6, tb m 7]))) ∨ (i = .int .i64 9 ∧ Hid (wr.ownsRow w.heap.size 5 1 v 9 (bvals [tb m 0, tb m 1, tb m 2, tb m 3, tb m 4, tb m 5, tb m 6, tb m 7, tb m 8]))))) (fun _ i _ => 9 - (intOf i).toNat)
  case atStart => exact ⟨Below.refl _ _, .inl ⟨rfl, World.ownsRow_nil _ _ _ _⟩⟩
  case round =>
    obtain ⟨hbel, hcase⟩ := hrel
    rcases hcase with ⟨rfl, hown⟩ | ⟨rfl, hown⟩ | ⟨rfl, hown⟩ | ⟨rfl, hown⟩ | ⟨rfl, hown⟩ | ⟨rfl, hown⟩ | ⟨rfl, hown⟩ | ⟨rfl, hown⟩ | ⟨rfl, hown⟩ | ⟨rfl, hown⟩
    · cases hd : (bits .and .i64 (m / 256) 1 == 1) with
      | true =>
        have HT : Hid (tb m 0 = 114) := T0.out true hd
        go_wp2_with (at_builtin; refine wpList_append_byte w.heap.size (by rfl) hown.out 114 (by rfl) (by omega) hbel.size ?_; intro v' w1 hown1 hbel1)
        go_roundw
        case rel => exact ⟨hbel.trans hbel1, .inr (.inl ⟨rfl, by have h := hown1; have e := HT.out; show World.ownsRow _ _ _ _ _ _ _; simp only [bvals, List.map_cons, List.map_nil, e]; exact h⟩)⟩
        case measure => simp [intOf]
      | false =>
        have HT : Hid (tb m 0 = 45) := T0.out false hd
        go_wp2_with (at_builtin; refine wpList_append_byte w.heap.size (by rfl) hown.out 45 (by rfl) (by omega) hbel.size ?_; intro v' w1 hown1 hbel1)
        go_roundw
        case rel => exact ⟨hbel.trans hbel1, .inr (.inl ⟨rfl, by have h := hown1; have e := HT.out; show World.ownsRow _ _ _ _ _ _ _; simp only [bvals, List.map_cons, List.map_nil, e]; exact h⟩)⟩
        case measure => simp [intOf]
    · cases hd : (bits .and .i64 (m / 128) 1 == 1) with
      | true =>
        have HT : Hid (tb m 1 = 119) := T1.out true hd
        go_wp2_with (at_builtin; refine wpList_append_byte w.heap.size (by rfl) hown.out 119 (by rfl) (by omega) hbel.size ?_; intro v' w1 hown1 hbel1)
        go_roundw
        case rel => exact ⟨hbel.trans hbel1, .inr (.inr (.inl ⟨rfl, by have h := hown1; have e := HT.out; show World.ownsRow _ _ _ _ _ _ _; simp only [bvals, List.map_cons, List.map_nil, e]; exact h⟩))⟩
        case measure => simp [intOf]
      | false =>
        have HT : Hid (tb m 1 = 45) := T1.out false hd
        go_wp2_with (at_builtin; refine wpList_append_byte w.heap.size (by rfl) hown.out 45 (by rfl) (by omega) hbel.size ?_; intro v' w1 hown1 hbel1)
        go_roundw
        case rel => exact ⟨hbel.trans hbel1, .inr (.inr (.inl ⟨rfl, by have h := hown1; have e := HT.out; show World.ownsRow _ _ _ _ _ _ _; simp only [bvals, List.map_cons, List.map_nil, e]; exact h⟩))⟩
        case measure => simp [intOf]
    · cases hd : (bits .and .i64 (m / 64) 1 == 1) with
      | true =>
        have HT : Hid (tb m 2 = 120) := T2.out true hd
        go_wp2_with (at_builtin; refine wpList_append_byte w.heap.size (by rfl) hown.out 120 (by rfl) (by omega) hbel.size ?_; intro v' w1 hown1 hbel1)
        go_roundw
        case rel => exact ⟨hbel.trans hbel1, .inr (.inr (.inr (.inl ⟨rfl, by have h := hown1; have e := HT.out; show World.ownsRow _ _ _ _ _ _ _; simp only [bvals, List.map_cons, List.map_nil, e]; exact h⟩)))⟩
        case measure => simp [intOf]
      | false =>
        have HT : Hid (tb m 2 = 45) := T2.out false hd
        go_wp2_with (at_builtin; refine wpList_append_byte w.heap.size (by rfl) hown.out 45 (by rfl) (by omega) hbel.size ?_; intro v' w1 hown1 hbel1)
        go_roundw
        case rel => exact ⟨hbel.trans hbel1, .inr (.inr (.inr (.inl ⟨rfl, by have h := hown1; have e := HT.out; show World.ownsRow _ _ _ _ _ _ _; simp only [bvals, List.map_cons, List.map_nil, e]; exact h⟩)))⟩
        case measure => simp [intOf]
    · cases hd : (bits .and .i64 (m / 32) 1 == 1) with
      | true =>
        have HT : Hid (tb m 3 = 114) := T3.out true hd
        go_wp2_with (at_builtin; refine wpList_append_byte w.heap.size (by rfl) hown.out 114 (by rfl) (by omega) hbel.size ?_; intro v' w1 hown1 hbel1)
        go_roundw
        case rel => exact ⟨hbel.trans hbel1, .inr (.inr (.inr (.inr (.inl ⟨rfl, by have h := hown1; have e := HT.out; show World.ownsRow _ _ _ _ _ _ _; simp only [bvals, List.map_cons, List.map_nil, e]; exact h⟩))))⟩
        case measure => simp [intOf]
      | false =>
        have HT : Hid (tb m 3 = 45) := T3.out false hd
        go_wp2_with (at_builtin; refine wpList_append_byte w.heap.size (by rfl) hown.out 45 (by rfl) (by omega) hbel.size ?_; intro v' w1 hown1 hbel1)
        go_roundw
        case rel => exact ⟨hbel.trans hbel1, .inr (.inr (.inr (.inr (.inl ⟨rfl, by have h := hown1; have e := HT.out; show World.ownsRow _ _ _ _ _ _ _; simp only [bvals, List.map_cons, List.map_nil, e]; exact h⟩))))⟩
        case measure => simp [intOf]
    · cases hd : (bits .and .i64 (m / 16) 1 == 1) with
      | true =>
        have HT : Hid (tb m 4 = 119) := T4.out true hd
        go_wp2_with (at_builtin; refine wpList_append_byte w.heap.size (by rfl) hown.out 119 (by rfl) (by omega) hbel.size ?_; intro v' w1 hown1 hbel1)
        go_roundw
        case rel => exact ⟨hbel.trans hbel1, .inr (.inr (.inr (.inr (.inr (.inl ⟨rfl, by have h := hown1; have e := HT.out; show World.ownsRow _ _ _ _ _ _ _; simp only [bvals, List.map_cons, List.map_nil, e]; exact h⟩)))))⟩
        case measure => simp [intOf]
      | false =>
        have HT : Hid (tb m 4 = 45) := T4.out false hd
        go_wp2_with (at_builtin; refine wpList_append_byte w.heap.size (by rfl) hown.out 45 (by rfl) (by omega) hbel.size ?_; intro v' w1 hown1 hbel1)
        go_roundw
        case rel => exact ⟨hbel.trans hbel1, .inr (.inr (.inr (.inr (.inr (.inl ⟨rfl, by have h := hown1; have e := HT.out; show World.ownsRow _ _ _ _ _ _ _; simp only [bvals, List.map_cons, List.map_nil, e]; exact h⟩)))))⟩
        case measure => simp [intOf]
    · cases hd : (bits .and .i64 (m / 8) 1 == 1) with
      | true =>
        have HT : Hid (tb m 5 = 120) := T5.out true hd
        go_wp2_with (at_builtin; refine wpList_append_byte w.heap.size (by rfl) hown.out 120 (by rfl) (by omega) hbel.size ?_; intro v' w1 hown1 hbel1)
        go_roundw
        case rel => exact ⟨hbel.trans hbel1, .inr (.inr (.inr (.inr (.inr (.inr (.inl ⟨rfl, by have h := hown1; have e := HT.out; show World.ownsRow _ _ _ _ _ _ _; simp only [bvals, List.map_cons, List.map_nil, e]; exact h⟩))))))⟩
        case measure => simp [intOf]
      | false =>
        have HT : Hid (tb m 5 = 45) := T5.out false hd
        go_wp2_with (at_builtin; refine wpList_append_byte w.heap.size (by rfl) hown.out 45 (by rfl) (by omega) hbel.size ?_; intro v' w1 hown1 hbel1)
        go_roundw
        case rel => exact ⟨hbel.trans hbel1, .inr (.inr (.inr (.inr (.inr (.inr (.inl ⟨rfl, by have h := hown1; have e := HT.out; show World.ownsRow _ _ _ _ _ _ _; simp only [bvals, List.map_cons, List.map_nil, e]; exact h⟩))))))⟩
        case measure => simp [intOf]
    · cases hd : (bits .and .i64 (m / 4) 1 == 1) with
      | true =>
        have HT : Hid (tb m 6 = 114) := T6.out true hd
        go_wp2_with (at_builtin; refine wpList_append_byte w.heap.size (by rfl) hown.out 114 (by rfl) (by omega) hbel.size ?_; intro v' w1 hown1 hbel1)
        go_roundw
        case rel => exact ⟨hbel.trans hbel1, .inr (.inr (.inr (.inr (.inr (.inr (.inr (.inl ⟨rfl, by have h := hown1; have e := HT.out; show World.ownsRow _ _ _ _ _ _ _; simp only [bvals, List.map_cons, List.map_nil, e]; exact h⟩)))))))⟩
        case measure => simp [intOf]
      | false =>
        have HT : Hid (tb m 6 = 45) := T6.out false hd
        go_wp2_with (at_builtin; refine wpList_append_byte w.heap.size (by rfl) hown.out 45 (by rfl) (by omega) hbel.size ?_; intro v' w1 hown1 hbel1)
        go_roundw
        case rel => exact ⟨hbel.trans hbel1, .inr (.inr (.inr (.inr (.inr (.inr (.inr (.inl ⟨rfl, by have h := hown1; have e := HT.out; show World.ownsRow _ _ _ _ _ _ _; simp only [bvals, List.map_cons, List.map_nil, e]; exact h⟩)))))))⟩
        case measure => simp [intOf]
    · cases hd : (bits .and .i64 (m / 2) 1 == 1) with
      | true =>
        have HT : Hid (tb m 7 = 119) := T7.out true hd
        go_wp2_with (at_builtin; refine wpList_append_byte w.heap.size (by rfl) hown.out 119 (by rfl) (by omega) hbel.size ?_; intro v' w1 hown1 hbel1)
        go_roundw
        case rel => exact ⟨hbel.trans hbel1, .inr (.inr (.inr (.inr (.inr (.inr (.inr (.inr (.inl ⟨rfl, by have h := hown1; have e := HT.out; show World.ownsRow _ _ _ _ _ _ _; simp only [bvals, List.map_cons, List.map_nil, e]; exact h⟩))))))))⟩
        case measure => simp [intOf]
      | false =>
        have HT : Hid (tb m 7 = 45) := T7.out false hd
        go_wp2_with (at_builtin; refine wpList_append_byte w.heap.size (by rfl) hown.out 45 (by rfl) (by omega) hbel.size ?_; intro v' w1 hown1 hbel1)
        go_roundw
        case rel => exact ⟨hbel.trans hbel1, .inr (.inr (.inr (.inr (.inr (.inr (.inr (.inr (.inl ⟨rfl, by have h := hown1; have e := HT.out; show World.ownsRow _ _ _ _ _ _ _; simp only [bvals, List.map_cons, List.map_nil, e]; exact h⟩))))))))⟩
        case measure => simp [intOf]
    · cases hd : (bits .and .i64 (m) 1 == 1) with
      | true =>
        have HT : Hid (tb m 8 = 120) := T8.out true (by have h := hd; rw [← Int.ediv_one m] at h; exact h)
        go_wp2_with (at_builtin; refine wpList_append_byte w.heap.size (by rfl) hown.out 120 (by rfl) (by omega) hbel.size ?_; intro v' w1 hown1 hbel1)
        go_roundw
        case rel => exact ⟨hbel.trans hbel1, .inr (.inr (.inr (.inr (.inr (.inr (.inr (.inr (.inr (⟨rfl, by have h := hown1; have e := HT.out; show World.ownsRow _ _ _ _ _ _ _; simp only [bvals, List.map_cons, List.map_nil, e]; exact h⟩)))))))))⟩
        case measure => simp [intOf]
      | false =>
        have HT : Hid (tb m 8 = 45) := T8.out false (by have h := hd; rw [← Int.ediv_one m] at h; exact h)
        go_wp2_with (at_builtin; refine wpList_append_byte w.heap.size (by rfl) hown.out 45 (by rfl) (by omega) hbel.size ?_; intro v' w1 hown1 hbel1)
        go_roundw
        case rel => exact ⟨hbel.trans hbel1, .inr (.inr (.inr (.inr (.inr (.inr (.inr (.inr (.inr (⟨rfl, by have h := hown1; have e := HT.out; show World.ownsRow _ _ _ _ _ _ _; simp only [bvals, List.map_cons, List.map_nil, e]; exact h⟩)))))))))⟩
        case measure => simp [intOf]
    · obtain ⟨g, cap, rfl, hcells⟩ := own_cells hown.out (by omega)
      have hc := Lib.hid hcells
      clear hcells
      by_cases h2 : 512 ≤ m <;> cases h3 : (m / 512 % 2 == 1) <;> cases h4 : (m / 1024 % 2 == 1)
      all_goals
        have H := Lib.hid (And.intro h2 (And.intro h3 h4))
        go_wp2_with (refine wpList_conv 5 Tryd.underlying69 Tryd.underlying5 Tryd.underlying9 (by rfl) (nine m) (by rfl) hc.out ?_)
        go_ret
        obtain ⟨a1, a2, a3⟩ := H.out
        rw [← HS1.out] at a2
        rw [← HS2.out] at a3
        refine ⟨congrArg Ending.returned (congrArg Value.string ?_), hbel⟩
        unfold textL
        first
          | rw [if_pos (show 511 < m by omega)]
          | rw [if_neg (show ¬ 511 < m by omega)]
        simp only [a2, a3, if_true, if_false, Bool.false_eq_true, List.append_nil]
        repeat rw [app_one]
        try rfl

end Go.Proofs.YtkjmmpdmbdimoaaDoor
