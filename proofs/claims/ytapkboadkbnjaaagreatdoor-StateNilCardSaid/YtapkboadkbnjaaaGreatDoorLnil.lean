/- The walk of StateNil. -/
import Derived.Test.YtapkboadkbnjaaaGreatDoorR2
import Derived.Test.YtapkboadkbnjaaaGreatDoorR3
import Derived.Test.YtapkboadkbnjaaaGreatDoorR4
namespace Go.Proofs.YtapkboadkbnjaaaGreatDoor
open Go.RowKit Go.Own
set_option maxRecDepth 100000
/-- Between the calls: the first change of the list. -/
structure SN (w0 : World) (g : Nat) (m : Nm) (w : World) : Prop where
  bel : Below w0.heap.size w0 w
  lt : g < w.heap.size
  c0 : w.cell? ⟨g, 0, none⟩ = some (.int .i64 m.kind)
  c1 : w.cell? ⟨g, 1, none⟩ = some (.string m.owner)
  c2 : w.cell? ⟨g, 2, none⟩ = some (.int .i64 m.num)
  c3 : w.cell? ⟨g, 3, none⟩ = some (.int .i64 m.idx)
  c4 : w.cell? ⟨g, 4, none⟩ = some (.string m.text)
theorem SN.later {w0 w w' : World} {g : Nat} {m : Nm} (h : SN w0 g m w) (hb : Below w.heap.size w w') : SN w0 g m w' :=
  ⟨bel_then h.bel h.bel.size hb, Nat.lt_of_lt_of_le h.lt hb.size, (hb.cell (p := ⟨g, 0, none⟩) h.lt).trans h.c0, (hb.cell (p := ⟨g, 1, none⟩) h.lt).trans h.c1, (hb.cell (p := ⟨g, 2, none⟩) h.lt).trans h.c2, (hb.cell (p := ⟨g, 3, none⟩) h.lt).trans h.c3, (hb.cell (p := ⟨g, 4, none⟩) h.lt).trans h.c4⟩
structure S0 (w0 : World) (X : Nat) (n : Nm) (v : ByteArray) (ab : Bool) (w : World) : Prop where
  box : Blk w X (chgC n v ab) 54
  bel : Below w0.heap.size w0 w
theorem S0.later {w0 w w' : World} {X : Nat} {n : Nm} {v : ByteArray} {ab : Bool} (h : S0 w0 X n v ab w) (hb : Below w.heap.size w w') : S0 w0 X n v ab w' := ⟨h.box.below hb h.box.lt, bel_then h.bel h.bel.size hb⟩
theorem to_new (n : Nm) (v : ByteArray) (ab : Bool) (w : World) (hv : v.size ≤ 9223372036854775807) (ho : n.owner.size ≤ 9223372036854775807) (ht : n.text.size ≤ 9223372036854775807) :
    Calls Tryz.prog 21 #[.slice (some ⟨w.heap.size, 0, none⟩) 1 1] (w.alloc (.cells (chgC n v ab).toArray 54)) (ToPost (w.alloc (.cells (chgC n v ab).toArray 54))) :=
  to_one n v ab w.heap.size _ (Blk.new w (chgC n v ab) 54) hv ho ht
theorem sn_new {w0 w1 w2 : World} {g : Nat} {m : Nm} {o : Obj} (hb : Below w0.heap.size w0 w1) (lt : g < w2.heap.size) (c0 : w2.cell? ⟨g, 0, none⟩ = some (.int .i64 m.kind)) (c1 : w2.cell? ⟨g, 1, none⟩ = some (.string m.owner)) (c2 : w2.cell? ⟨g, 2, none⟩ = some (.int .i64 m.num)) (c3 : w2.cell? ⟨g, 3, none⟩ = some (.int .i64 m.idx)) (c4 : w2.cell? ⟨g, 4, none⟩ = some (.string m.text))
    (hb2 : Below (w1.alloc o).heap.size (w1.alloc o) w2) : SN w0 g m w2 :=
  ⟨bel_then (hb.alloc hb.size o) (Nat.le_trans hb.size (by rw [World.size_alloc]; omega)) hb2, lt, c0, c1, c2, c3, c4⟩
theorem diff_nil2' (k : Nat) (w : World) : Calls Tryz.prog 24 #[.pointer (some ⟨k, 0, none⟩), .pointer none] w fun e w' => e = .returned (.slice none 0 0) ∧ Below w.heap.size w w' := by
  go_enter_defers Tryz.func24, Tryz.ntmps24
  go_wp2
  go_quiet (fail)
  go_wp2
  exact ⟨_, results_tmp rfl _ _ _, rfl, qm_drewN _ _ _⟩

theorem eq_zero (w : World) : (Op.equalIn 10000 75 (.agg zero32.toArray) (.agg #[.int .u8 0, .int .u8 0, .int .u8 0, .int .u8 0, .int .u8 0, .int .u8 0, .int .u8 0, .int .u8 0, .int .u8 0, .int .u8 0, .int .u8 0, .int .u8 0, .int .u8 0, .int .u8 0, .int .u8 0, .int .u8 0, .int .u8 0, .int .u8 0, .int .u8 0, .int .u8 0, .int .u8 0, .int .u8 0, .int .u8 0, .int .u8 0, .int .u8 0, .int .u8 0, .int .u8 0, .int .u8 0, .int .u8 0, .int .u8 0, .int .u8 0, .int .u8 0])).run Tryz.prog w = .ok true w := by kernel_rfl

set_option maxHeartbeats 4000000 in
theorem nil_calls (n : Nm) (v : ByteArray) (ab : Bool) (w : World) (hv : v.size ≤ 9223372036854775807) (ho : n.owner.size ≤ 9223372036854775807) (ht : n.text.size ≤ 9223372036854775807) :
    Calls Tryz.prog 9 #[.agg #[.int .i64 n.kind, .string n.owner, .int .i64 n.num, .int .i64 n.idx, .string n.text, .string v, .bool ab]] w fun e w' => e = .returned (.bool true) ∧ Below w.heap.size w w' := by
  have HS : Hid (S0 w w.heap.size n v ab (w.alloc (.cells #[.int .i64 n.kind, .string n.owner, .int .i64 n.num, .int .i64 n.idx, .string n.text, .string v, .bool ab] 54))) := ⟨Blk.new w (chgC n v ab) 54, bel1 _ _⟩
  have HZ := Lib.hid (And.intro hv (And.intro ho ht))
  clear hv ho ht
  have hz := eq_zero
  go_enter Tryz.func9, Tryz.ntmps9
  go_upto_region 8 with (first
    | (go_at_call 13; (with_reducible refine (known_calls _).mono ?_); rintro e w1 ⟨rfl, hb⟩; have HS := Lib.hid (HS.out.later hb); have q0 := HS.out.box.cell 0 rfl; have q1 := HS.out.box.cell 1 rfl; have q2 := HS.out.box.cell 2 rfl; have q3 := HS.out.box.cell 3 rfl; have q4 := HS.out.box.cell 4 rfl; have q5 := HS.out.box.cell 5 rfl; have q6 := HS.out.box.cell 6 rfl; clear hb)
    | (go_at_call 21; (refine (to_new n v ab _ HZ.out.1 HZ.out.2.1 HZ.out.2.2).mono ?_); rintro e w2 ⟨g, cap, own, m, rfl, hlt, c0, c1, c2, c3, c4, hb⟩; have HN := Lib.hid (sn_new HS.out.bel hlt c0 c1 c2 c3 c4 hb); clear hlt hb)
    | (go_at_call 15; (with_reducible refine (get_nil m _).mono ?_); rintro e w3 ⟨rfl, hb⟩; have HN := Lib.hid (HN.out.later hb); have c0 := HN.out.c0; have c1 := HN.out.c1; have c2 := HN.out.c2; have c3 := HN.out.c3; have c4 := HN.out.c4; clear hb)
    | (go_at_call 32; (with_reducible refine (withS_nil m _ _).mono ?_); rintro e w4 ⟨rfl, hb⟩; have HN := Lib.hid (HN.out.later hb); have c0 := HN.out.c0; have c1 := HN.out.c1; have c2 := HN.out.c2; have c3 := HN.out.c3; have c4 := HN.out.c4; clear hb)
    | (go_at_call 33; (with_reducible refine (withoutS_nil m _).mono ?_); rintro e w5 ⟨rfl, hb⟩; have HN := Lib.hid (HN.out.later hb); have c0 := HN.out.c0; have c1 := HN.out.c1; have c2 := HN.out.c2; have c3 := HN.out.c3; have c4 := HN.out.c4; clear hb))
  clear c0 c1 c2 c3 c4
  go_wp2_with (first
    | (go_at_call 26; (with_reducible refine (apply_nil _ _).mono ?_); rintro e w6 ⟨rfl, rfl⟩)
    | (go_at_call 34; (with_reducible refine (len_nil _).mono ?_); rintro e w6 ⟨rfl, rfl⟩)
    | (go_at_call 35; (with_reducible refine (bytes_nil _).mono ?_); rintro e w6 ⟨rfl, rfl⟩)
    | (go_at_call 36; (with_reducible refine (namesS_nil _).mono ?_); rintro e w7 ⟨rfl, hb⟩; have HN := Lib.hid (HN.out.later hb); clear hb)
    | (go_at_call 18; (with_reducible refine (kindS_nil _ _).mono ?_); rintro e w8 ⟨rfl, hb⟩; have HN := Lib.hid (HN.out.later hb); clear hb)
    | (go_at_call 20; (with_reducible refine (new_calls _).mono ?_); rintro e w9 ⟨rfl, hs9, hb⟩; have HN := Lib.hid (HN.out.later hb); have H9 := Lib.hid hs9; clear hb hs9)
    | (go_at_call 24; (with_reducible refine (diff_nil1 _ _).mono ?_); rintro e w10 ⟨rfl, hb⟩; have HN := Lib.hid (HN.out.later hb); clear hb)
    | (go_at_call 24; (with_reducible refine (diff_nil2' _ _).mono ?_); rintro e w10 ⟨rfl, hb⟩; have HN := Lib.hid (HN.out.later hb); clear hb)
    | (go_at_call 30; (with_reducible refine (encode_nil _).mono ?_); rintro e w6 ⟨rfl, rfl⟩)
    | (go_at_call 37; (with_reducible refine (digest_nil _).mono ?_); rintro e w11 ⟨rfl, hb⟩; have HN := Lib.hid (HN.out.later hb); clear hb)
    | (go_at_call 27; (with_reducible refine (equal_nn _).mono ?_); rintro e w6 ⟨rfl, rfl⟩)
    | (go_at_call 27; (with_reducible refine (equal_ns _ _).mono ?_); rintro e w6 ⟨rfl, rfl⟩))
  go_ret
  exact ⟨rfl, HN.out.bel⟩
end Go.Proofs.YtapkboadkbnjaaaGreatDoor
