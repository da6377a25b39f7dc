/- A ledger's state, the block that holds it, and how reads and stores of that block go. Plain words. -/
import Derived.Test.YtkldfjlbgmppfabBase
import Derived.WalkSpells
import Derived.StillTactics
import Derived.Laws.Pointers
import Derived.Deep.RegionHeld3
import Derived.Deep.QuietTactic
import Derived.KernelRfl
import Derived.IntWalk
import Derived.WalkLawsBesides
namespace Go.Proofs.Ytkldfjlbgmppfab.Ld
open Go.RowKit Go.Proofs.YtkldfjlbgmppfabW.PrintWords Go.Proofs.YtkldfjlbgmppfabW.PrintLast Go.Proofs.YtkldfjlbgmppfabW.PrintMore
set_option linter.unusedVariables false
set_option linter.unusedSimpArgs false
/-- A slot. -/
structure Pl where
  held : Bool
  id : Int
  mem : Int
/-- A ledger. -/
structure Led where
  budget : Int
  many : Nat
  p : Nat → Pl
  used : Int
def upd (p : Nat → Pl) (i : Nat) (x : Pl) (k : Nat) : Pl := if k = i then x else p k
theorem upd_same (p : Nat → Pl) (i : Nat) (x : Pl) : upd p i x i = x := if_pos rfl
theorem upd_far (p : Nat → Pl) (i : Nat) (x : Pl) {k : Nat} (h : k ≠ i) : upd p i x k = p k := if_neg h
def Led.put (s : Led) (i : Nat) (x : Pl) : Led := { s with p := upd s.p i x }
def Led.uses (s : Led) (n : Int) : Led := { s with used := n }
/-- The block of a ledger. -/
def enc (s : Led) : Array Value := #[.int .i64 s.budget, .int .i64 (s.many : Int), .bool (s.p 0).held, .int .i64 (s.p 0).id, .int .i64 (s.p 0).mem, .bool (s.p 1).held, .int .i64 (s.p 1).id, .int .i64 (s.p 1).mem, .bool (s.p 2).held, .int .i64 (s.p 2).id, .int .i64 (s.p 2).mem, .bool (s.p 3).held, .int .i64 (s.p 3).id, .int .i64 (s.p 3).mem, .bool (s.p 4).held, .int .i64 (s.p 4).id, .int .i64 (s.p 4).mem, .bool (s.p 5).held, .int .i64 (s.p 5).id, .int .i64 (s.p 5).mem, .bool (s.p 6).held, .int .i64 (s.p 6).id, .int .i64 (s.p 6).mem, .bool (s.p 7).held, .int .i64 (s.p 7).id, .int .i64 (s.p 7).mem, .bool (s.p 8).held, .int .i64 (s.p 8).id, .int .i64 (s.p 8).mem, .bool (s.p 9).held, .int .i64 (s.p 9).id, .int .i64 (s.p 9).mem, .bool (s.p 10).held, .int .i64 (s.p 10).id, .int .i64 (s.p 10).mem, .bool (s.p 11).held, .int .i64 (s.p 11).id, .int .i64 (s.p 11).mem, .bool (s.p 12).held, .int .i64 (s.p 12).id, .int .i64 (s.p 12).mem, .bool (s.p 13).held, .int .i64 (s.p 13).id, .int .i64 (s.p 13).mem, .bool (s.p 14).held, .int .i64 (s.p 14).id, .int .i64 (s.p 14).mem, .bool (s.p 15).held, .int .i64 (s.p 15).id, .int .i64 (s.p 15).mem, .int .i64 s.used]
theorem enc_budget (s : Led) : (enc s)[0]? = some (.int .i64 s.budget) := rfl
theorem enc_many (s : Led) : (enc s)[1]? = some (.int .i64 (s.many : Int)) := rfl
theorem enc_used (s : Led) : (enc s)[50]? = some (.int .i64 s.used) := rfl
theorem enc_held (s : Led) (i : Nat) (h : i < 16) : (enc s)[2 + i * 3]? = some (.bool (s.p i).held) := by
  match i, h with
  | 0, _ => rfl
  | 1, _ => rfl
  | 2, _ => rfl
  | 3, _ => rfl
  | 4, _ => rfl
  | 5, _ => rfl
  | 6, _ => rfl
  | 7, _ => rfl
  | 8, _ => rfl
  | 9, _ => rfl
  | 10, _ => rfl
  | 11, _ => rfl
  | 12, _ => rfl
  | 13, _ => rfl
  | 14, _ => rfl
  | 15, _ => rfl
  | n + 16, h => omega
theorem enc_id (s : Led) (i : Nat) (h : i < 16) : (enc s)[2 + i * 3 + 1]? = some (.int .i64 (s.p i).id) := by
  match i, h with
  | 0, _ => rfl
  | 1, _ => rfl
  | 2, _ => rfl
  | 3, _ => rfl
  | 4, _ => rfl
  | 5, _ => rfl
  | 6, _ => rfl
  | 7, _ => rfl
  | 8, _ => rfl
  | 9, _ => rfl
  | 10, _ => rfl
  | 11, _ => rfl
  | 12, _ => rfl
  | 13, _ => rfl
  | 14, _ => rfl
  | 15, _ => rfl
  | n + 16, h => omega
theorem enc_mem (s : Led) (i : Nat) (h : i < 16) : (enc s)[2 + i * 3 + 2]? = some (.int .i64 (s.p i).mem) := by
  match i, h with
  | 0, _ => rfl
  | 1, _ => rfl
  | 2, _ => rfl
  | 3, _ => rfl
  | 4, _ => rfl
  | 5, _ => rfl
  | 6, _ => rfl
  | 7, _ => rfl
  | 8, _ => rfl
  | 9, _ => rfl
  | 10, _ => rfl
  | 11, _ => rfl
  | 12, _ => rfl
  | 13, _ => rfl
  | 14, _ => rfl
  | 15, _ => rfl
  | n + 16, h => omega
theorem enc_set_used (s : Led) (n : Int) : (enc s).setIfInBounds 50 (.int .i64 n) = enc (s.uses n) := rfl
theorem enc_put (s : Led) (x : Pl) (i : Nat) (h : i < 16) : (((enc s).setIfInBounds (2 + i * 3) (.bool x.held)).setIfInBounds (2 + i * 3 + 1) (.int .i64 x.id)).setIfInBounds (2 + i * 3 + 2) (.int .i64 x.mem) = enc (s.put i x) := by
  match i, h with
  | 0, _ => rfl
  | 1, _ => rfl
  | 2, _ => rfl
  | 3, _ => rfl
  | 4, _ => rfl
  | 5, _ => rfl
  | 6, _ => rfl
  | 7, _ => rfl
  | 8, _ => rfl
  | 9, _ => rfl
  | 10, _ => rfl
  | 11, _ => rfl
  | 12, _ => rfl
  | 13, _ => rfl
  | 14, _ => rfl
  | 15, _ => rfl
  | n + 16, h => omega

/-- A ledger lies at block 'g'. -/
def At (w : World) (g : Nat) (s : Led) : Prop := w.heap[g]? = some (.cells (enc s) 70 (0, 0))
theorem At.cell {w : World} {g : Nat} {s : Led} (h : At w g s) (k : Nat) {v : Value} (hk : (enc s)[k]? = some v) : w.cell? ⟨g, k, none⟩ = some v := (blk_cell h k).trans hk
theorem At.budget {w : World} {g : Nat} {s : Led} (h : At w g s) : w.cell? ⟨g, 0, none⟩ = some (.int .i64 s.budget) := h.cell 0 (enc_budget s)
theorem At.many {w : World} {g : Nat} {s : Led} (h : At w g s) : w.cell? ⟨g, 1, none⟩ = some (.int .i64 (s.many : Int)) := h.cell 1 (enc_many s)
theorem At.used {w : World} {g : Nat} {s : Led} (h : At w g s) : w.cell? ⟨g, 50, none⟩ = some (.int .i64 s.used) := h.cell 50 (enc_used s)
theorem At.held {w : World} {g : Nat} {s : Led} (h : At w g s) (i : Nat) (hi : i < 16) : w.cell? ⟨g, 2 + i * 3, none⟩ = some (.bool (s.p i).held) := h.cell _ (enc_held s i hi)
theorem At.id {w : World} {g : Nat} {s : Led} (h : At w g s) (i : Nat) (hi : i < 16) : w.cell? ⟨g, 2 + i * 3 + 1, none⟩ = some (.int .i64 (s.p i).id) := h.cell _ (enc_id s i hi)
theorem At.mem {w : World} {g : Nat} {s : Led} (h : At w g s) (i : Nat) (hi : i < 16) : w.cell? ⟨g, 2 + i * 3 + 2, none⟩ = some (.int .i64 (s.p i).mem) := h.cell _ (enc_mem s i hi)
theorem At.frozen {w : World} {g : Nat} {s : Led} (h : At w g s) (k : Nat) : w.frozen? ⟨g, k, none⟩ = false := blk_frozen h k
theorem At.below {w w1 : World} {g : Nat} {s : Led} (h : At w g s) (hb : Below w.heap.size w w1) : At w1 g s := blk_below h hb
theorem At.lt {w : World} {g : Nat} {s : Led} (h : At w g s) : g < w.heap.size := blk_lt h

/-- What has become of the world: block 'g' alone may have been written; new ones may be there. -/
structure Touch (g : Nat) (w w' : World) : Prop where
  os : w'.os = w.os
  tape : w'.tape = w.tape
  output : w'.output = w.output
  size : w.heap.size ≤ w'.heap.size
  block : ∀ k, k < w.heap.size → k ≠ g → w'.heap[k]? = w.heap[k]?
theorem Touch.refl (g : Nat) (w : World) : Touch g w w := ⟨rfl, rfl, rfl, Nat.le_refl _, fun _ _ _ => rfl⟩
theorem Touch.trans {g : Nat} {w w1 w2 : World} (h : Touch g w w1) (k : Touch g w1 w2) : Touch g w w2 :=
  ⟨k.os.trans h.os, k.tape.trans h.tape, k.output.trans h.output, Nat.le_trans h.size k.size, fun i hi hn => (k.block i (Nat.lt_of_lt_of_le hi h.size) hn).trans (h.block i hi hn)⟩
theorem Touch.of_below {w w1 : World} (h : Below w.heap.size w w1) (g : Nat) : Touch g w w1 := ⟨h.os, h.tape, h.output, h.size, fun i hi _ => h.block i hi⟩
theorem Touch.set {g : Nat} {w w1 : World} (h : Touch g w w1) (j : Nat) (v : Value) : Touch g w (w1.setCell ⟨g, j, none⟩ v) :=
  ⟨h.os, h.tape, h.output, by simpa [World.setCell] using h.size, fun i hi hn => (Below.heap_setCell w1 ⟨g, j, none⟩ v i hn).trans (h.block i hi hn)⟩
theorem Touch.drewN {g : Nat} {w w1 : World} (h : Touch g w w1) (n : Nat) : Touch g w (w1.drewN n) := ⟨h.os, h.tape, h.output, h.size, h.block⟩
theorem Touch.drew {g : Nat} {w w1 : World} (h : Touch g w w1) : Touch g w w1.drew := ⟨h.os, h.tape, h.output, h.size, h.block⟩
theorem Touch.alloc {g : Nat} {w w1 : World} (h : Touch g w w1) (o : Obj) : Touch g w (w1.alloc o) := h.trans (Touch.of_below (below_alloc (Below.refl _ _) o) g)
theorem Touch.below {B g : Nat} {w0 w w1 : World} (h : Touch g w w1) (hb : Below B w0 w) (hg : B ≤ g) (hB : B ≤ w0.heap.size) : Below B w0 w1 :=
  ⟨h.os.trans hb.os, h.tape.trans hb.tape, h.output.trans hb.output, Nat.le_trans hb.size h.size, fun i hi => (h.block i (by have := hb.size; omega) (by omega)).trans (hb.block i hi)⟩
theorem Touch.at {g g' : Nat} {s : Led} {w w1 : World} (h : Touch g w w1) (ha : At w g' s) (hne : g' ≠ g) : At w1 g' s := (h.block g' ha.lt hne).trans ha

/-- The first slot of which 'q' holds; -1: there is none. -/
def fnd (q : Pl → Bool) (s : Led) : Int := match (List.range s.many).find? (fun i => q (s.p i)) with | some i => (i : Int) | none => -1
theorem fnd_none {q : Pl → Bool} {s : Led} (h : ∀ i, i < s.many → q (s.p i) = false) : fnd q s = -1 := by
  unfold fnd
  have : (List.range s.many).find? (fun i => q (s.p i)) = none := by
    rw [List.find?_eq_none]; intro i hi; rw [h i (List.mem_range.1 hi)]; simp
  rw [this]
theorem fnd_some {q : Pl → Bool} {s : Led} {i : Nat} (h1 : i < s.many) (h2 : q (s.p i) = true) (h3 : ∀ j, j < i → q (s.p j) = false) : fnd q s = (i : Int) := by
  unfold fnd
  have : (List.range s.many).find? (fun i => q (s.p i)) = some i := by
    rw [List.find?_range_eq_some]
    exact ⟨h2, List.mem_range.2 h1, fun j hj => by rw [h3 j hj]; rfl⟩
  rw [this]
theorem fnd_cases (q : Pl → Bool) (s : Led) : (fnd q s = -1 ∧ ∀ i, i < s.many → q (s.p i) = false) ∨ ∃ i : Nat, fnd q s = (i : Int) ∧ i < s.many ∧ q (s.p i) = true ∧ ∀ j, j < i → q (s.p j) = false := by
  cases h : (List.range s.many).find? (fun i => q (s.p i)) with
  | none =>
    left
    refine ⟨by unfold fnd; rw [h], fun i hi => ?_⟩
    have := List.find?_eq_none.1 h i (List.mem_range.2 hi)
    simpa using this
  | some i =>
    right
    rw [List.find?_range_eq_some] at h
    exact ⟨i, by rw [fnd_some (List.mem_range.1 h.2.1) h.1 (fun j hj => by simpa using h.2.2 j hj)], List.mem_range.1 h.2.1, h.1, fun j hj => by simpa using h.2.2 j hj⟩
end Go.Proofs.Ytkldfjlbgmppfab.Ld
