/- Small words on worlds; the trees of a state in memory. -/
import Derived.Test.YtapkboadkbnjaaaGreatDoorW1
import Derived.Test.YtapkboadkbnjaaaGreatDoorProg
import Derived.Deep.RegionHeld3
import Derived.BigRegion
namespace Go.Proofs.YtapkboadkbnjaaaGreatDoor
open Go.RowKit Go.Own

theorem bel1 (w : World) (o : Obj) : Below w.heap.size w (w.alloc o) := (Below.refl _ _).alloc (Nat.le_refl _) _
theorem bel_then {B : Nat} {w w1 w2 : World} (h : Below B w w1) (hB : B ≤ w1.heap.size) (k : Below w1.heap.size w1 w2) : Below B w w2 := h.trans (k.mono hB)
theorem qm_drew (B : Nat) (w : World) : Below B w w.drew := ⟨rfl, rfl, rfl, Nat.le_refl _, fun _ _ => rfl⟩
theorem qm_drewN (B : Nat) (w : World) (n : Nat) : Below B w (w.drewN n) := ⟨rfl, rfl, rfl, Nat.le_refl _, fun _ _ => rfl⟩
theorem ret_int {k : IntKind} {a b : Int} (h : a = b) : Ending.returned (.int k a) = .returned (.int k b) := by rw [h]
theorem ret_bool {a b : Bool} (h : a = b) : Ending.returned (.bool a) = .returned (.bool b) := by rw [h]

/-- The name of an object. -/
structure Nm where
  kind : Int
  owner : ByteArray
  num : Int
  idx : Int
  text : ByteArray
/-- Its cells; its value. -/
def nmC (n : Nm) : List Value := [.int .i64 n.kind, .string n.owner, .int .i64 n.num, .int .i64 n.idx, .string n.text]
abbrev nmV (n : Nm) : Value := .agg #[.int .i64 n.kind, .string n.owner, .int .i64 n.num, .int .i64 n.idx, .string n.text]

/-- A tree: with each node what stands in it. -/
inductive T where
  | leaf
  | node (l : T) (n : Nm) (v : ByteArray) (r : T) (h s b : Int)
def T.tall : T → Int
  | .leaf => 0
  | .node _ _ _ _ h _ _ => h
def T.many : T → Int
  | .leaf => 0
  | .node _ _ _ _ _ s _ => s
def T.total : T → Int
  | .leaf => 0
  | .node _ _ _ _ _ _ b => b
def T.inorder : T → List (Nm × ByteArray)
  | .leaf => []
  | .node l n v r _ _ _ => l.inorder ++ (n, v) :: r.inorder

def nodeC (n : Nm) (v : ByteArray) (pl pr : Option Addr) (h s b : Int) : List Value :=
  [.int .i64 n.kind, .string n.owner, .int .i64 n.num, .int .i64 n.idx, .string n.text, .string v, .pointer pl, .pointer pr, .int .i64 h, .int .i64 s, .int .i64 b]

/-- The heap holds the tree at p, in blocks below n₀. -/
def IsT (n₀ : Nat) (W : World) : Option Addr → T → Prop
  | p, .leaf => p = none
  | p, .node l n v r h s b => ∃ (k : Nat) (pl pr : Option Addr), p = some ⟨k, 0, none⟩ ∧ k < n₀ ∧ Blk W k (nodeC n v pl pr h s b) 89 ∧ IsT n₀ W pl l ∧ IsT n₀ W pr r
theorem IsT.below {n₀ : Nat} {A B : World} (h : Below n₀ A B) : ∀ {p : Option Addr} {t : T}, IsT n₀ A p t → IsT n₀ B p t
  | _, .leaf, ht => ht
  | _, .node _ _ _ _ _ _ _, ⟨k, pl, pr, hp, hb, h0, hl, hr⟩ => ⟨k, pl, pr, hp, hb, h0.below h hb, hl.below h, hr.below h⟩
theorem IsT.up {n₀ n₁ : Nat} {W : World} (hn : n₀ ≤ n₁) : ∀ {p : Option Addr} {t : T}, IsT n₀ W p t → IsT n₁ W p t
  | _, .leaf, ht => ht
  | _, .node _ _ _ _ _ _ _, ⟨k, pl, pr, hp, hb, h0, hl, hr⟩ => ⟨k, pl, pr, hp, Nat.lt_of_lt_of_le hb hn, h0, hl.up hn, hr.up hn⟩
/-- What stays, a call having gone by. -/
theorem IsT.later {A B : World} {p : Option Addr} {t : T} (ht : IsT A.heap.size A p t) (h : Below A.heap.size A B) : IsT B.heap.size B p t := (ht.below h).up h.size

theorem tall_calls (p : Option Addr) (t : T) (n₀ : Nat) (w : World) (ht : IsT n₀ w p t) : Calls Tryz.prog 138 #[.pointer p] w fun e w' => e = .returned (.int .i64 t.tall) ∧ w = w' := by
  cases t with
  | leaf =>
    obtain rfl : p = none := ht
    go_enter Tryz.func138, Tryz.ntmps138
    go_wp2
    go_ret
    exact ⟨rfl, rfl⟩
  | node l n v r h s b =>
    obtain ⟨k, pl, pr, rfl, -, hb, -, -⟩ := ht
    have q := hb.cell 8 rfl
    clear hb
    go_enter Tryz.func138, Tryz.ntmps138
    go_wp2
    go_ret
    exact ⟨rfl, rfl⟩
theorem many_calls (p : Option Addr) (t : T) (n₀ : Nat) (w : World) (ht : IsT n₀ w p t) : Calls Tryz.prog 66 #[.pointer p] w fun e w' => e = .returned (.int .i64 t.many) ∧ w = w' := by
  cases t with
  | leaf =>
    obtain rfl : p = none := ht
    go_enter Tryz.func66, Tryz.ntmps66
    go_wp2
    go_ret
    exact ⟨rfl, rfl⟩
  | node l n v r h s b =>
    obtain ⟨k, pl, pr, rfl, -, hb, -, -⟩ := ht
    have q := hb.cell 9 rfl
    clear hb
    go_enter Tryz.func66, Tryz.ntmps66
    go_wp2
    go_ret
    exact ⟨rfl, rfl⟩
theorem total_calls (p : Option Addr) (t : T) (n₀ : Nat) (w : World) (ht : IsT n₀ w p t) : Calls Tryz.prog 67 #[.pointer p] w fun e w' => e = .returned (.int .i64 t.total) ∧ w = w' := by
  cases t with
  | leaf =>
    obtain rfl : p = none := ht
    go_enter Tryz.func67, Tryz.ntmps67
    go_wp2
    go_ret
    exact ⟨rfl, rfl⟩
  | node l n v r h s b =>
    obtain ⟨k, pl, pr, rfl, -, hb, -, -⟩ := ht
    have q := hb.cell 10 rfl
    clear hb
    go_enter Tryz.func67, Tryz.ntmps67
    go_wp2
    go_ret
    exact ⟨rfl, rfl⟩

/-- A state: nil, or one cell with the root. -/
def IsS (n₀ : Nat) (W : World) : Option Addr → Option T → Prop
  | p, none => p = none
  | p, some t => ∃ (k : Nat) (r : Option Addr), p = some ⟨k, 0, none⟩ ∧ k < n₀ ∧ Blk W k [.pointer r] 95 ∧ IsT n₀ W r t
def rootT : Option T → T
  | none => .leaf
  | some t => t
theorem IsS.below {n₀ : Nat} {A B : World} (h : Below n₀ A B) : ∀ {p : Option Addr} {t : Option T}, IsS n₀ A p t → IsS n₀ B p t
  | _, none, ht => ht
  | _, some _, ⟨k, r, hp, hb, h0, hr⟩ => ⟨k, r, hp, hb, h0.below h hb, hr.below h⟩
theorem IsS.up {n₀ n₁ : Nat} {W : World} (hn : n₀ ≤ n₁) : ∀ {p : Option Addr} {t : Option T}, IsS n₀ W p t → IsS n₁ W p t
  | _, none, ht => ht
  | _, some _, ⟨k, r, hp, hb, h0, hr⟩ => ⟨k, r, hp, Nat.lt_of_lt_of_le hb hn, h0, hr.up hn⟩
theorem IsS.later {A B : World} {p : Option Addr} {t : Option T} (ht : IsS A.heap.size A p t) (h : Below A.heap.size A B) : IsS B.heap.size B p t := (ht.below h).up h.size

theorem tree_calls (p : Option Addr) (s : Option T) (n₀ : Nat) (w : World) (hs : IsS n₀ w p s) : Calls Tryz.prog 43 #[.pointer p] w fun e w' => (∃ r, e = .returned (.pointer r) ∧ IsT n₀ w r (rootT s)) ∧ w = w' := by
  cases s with
  | none =>
    obtain rfl : p = none := hs
    go_enter Tryz.func43, Tryz.ntmps43
    go_wp2
    go_ret
    exact ⟨⟨none, rfl, rfl⟩, rfl⟩
  | some t =>
    obtain ⟨k, r, rfl, -, hb, hr⟩ := hs
    have q := hb.cell 0 rfl
    clear hb
    go_enter Tryz.func43, Tryz.ntmps43
    go_wp2
    go_ret
    exact ⟨⟨r, rfl, hr⟩, rfl⟩
theorem len_calls (p : Option Addr) (s : Option T) (n₀ : Nat) (w : World) (hs : IsS n₀ w p s) : Calls Tryz.prog 34 #[.pointer p] w fun e w' => e = .returned (.int .i64 (rootT s).many) ∧ w = w' := by
  go_enter Tryz.func34, Tryz.ntmps34
  go_wp2_with (first
    | (go_at_call 43; (with_reducible refine (tree_calls _ s n₀ _ hs).mono ?_); rintro e w1 ⟨⟨r, rfl, hr⟩, rfl⟩)
    | (go_at_call 66; (with_reducible refine (many_calls _ (rootT s) n₀ _ hr).mono ?_); rintro e w1 ⟨rfl, rfl⟩))
  go_ret
  exact ⟨rfl, rfl⟩
theorem bytes_calls (p : Option Addr) (s : Option T) (n₀ : Nat) (w : World) (hs : IsS n₀ w p s) : Calls Tryz.prog 35 #[.pointer p] w fun e w' => e = .returned (.int .i64 (rootT s).total) ∧ w = w' := by
  go_enter Tryz.func35, Tryz.ntmps35
  go_wp2_with (first
    | (go_at_call 43; (with_reducible refine (tree_calls _ s n₀ _ hs).mono ?_); rintro e w1 ⟨⟨r, rfl, hr⟩, rfl⟩)
    | (go_at_call 67; (with_reducible refine (total_calls _ (rootT s) n₀ _ hr).mono ?_); rintro e w1 ⟨rfl, rfl⟩))
  go_ret
  exact ⟨rfl, rfl⟩

theorem new_calls (w : World) : Calls Tryz.prog 20 #[] w fun e w' => e = .returned (.pointer (some ⟨w.heap.size, 0, none⟩)) ∧ IsS w'.heap.size w' (some ⟨w.heap.size, 0, none⟩) (some .leaf) ∧ Below w.heap.size w w' := by
  go_enter Tryz.func20, Tryz.ntmps20
  go_wp2
  go_ret
  exact ⟨rfl, ⟨w.heap.size, none, rfl, by simp, Blk.new w [.pointer none] 95, rfl⟩, bel1 _ _⟩

/-- The name of the clock. -/
def clockN : Nm := ⟨15, ⟨#[]⟩, 0, 0, ⟨#[]⟩⟩
theorem clock_calls (w : World) : Calls Tryz.prog 38 #[] w fun e w' => e = .returned (nmV clockN) ∧ Below w.heap.size w w' := by
  go_enter Tryz.func38, Tryz.ntmps38
  go_wp2
  refine bodyPost_ret (v := nmV clockN) (by simp [results, Tryz.results38, go_sem, clockN]) rfl ?_
  exact ⟨rfl, bel1 _ _⟩
end Go.Proofs.YtapkboadkbnjaaaGreatDoor
