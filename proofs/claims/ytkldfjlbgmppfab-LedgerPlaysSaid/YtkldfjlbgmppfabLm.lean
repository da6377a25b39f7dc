/- The sixteen memories of LedgerBounds, and its plain laws. -/
import Derived.Test.YtkldfjlbgmppfabLs
import Derived.Test.YtkldfjlbgmppfabLp2
namespace Go.Proofs.Ytkldfjlbgmppfab.Ld
open Go.RowKit Go.Proofs.YtkldfjlbgmppfabW.PrintWords Go.Proofs.YtkldfjlbgmppfabW.PrintLast Go.Proofs.YtkldfjlbgmppfabW.PrintMore
set_option linter.unusedVariables false
set_option linter.unusedSimpArgs false
def encM (p : Nat → Pl) : Array Value := #[.int .i64 (p 0).mem, .int .i64 (p 1).mem, .int .i64 (p 2).mem, .int .i64 (p 3).mem, .int .i64 (p 4).mem, .int .i64 (p 5).mem, .int .i64 (p 6).mem, .int .i64 (p 7).mem, .int .i64 (p 8).mem, .int .i64 (p 9).mem, .int .i64 (p 10).mem, .int .i64 (p 11).mem, .int .i64 (p 12).mem, .int .i64 (p 13).mem, .int .i64 (p 14).mem, .int .i64 (p 15).mem]
theorem encM_get (p : Nat → Pl) (i : Nat) (h : i < 16) : (encM p)[i]? = some (.int .i64 (p i).mem) := by
  match i, h with
  | 0, _ => rfl
  | 1, _ => rfl
  | 2, _ => rfl
  | 3, _ => rfl
  | 4, _ => rfl
  | 5, _ => rfl
  | 6, _ => rfl
  | 7, _ => rfl
  | 8, _ => rfl
  | 9, _ => rfl
  | 10, _ => rfl
  | 11, _ => rfl
  | 12, _ => rfl
  | 13, _ => rfl
  | 14, _ => rfl
  | 15, _ => rfl
  | n + 16, h => omega
theorem encM_put (p : Nat → Pl) (x : Pl) (i : Nat) (h : i < 16) : (encM p).setIfInBounds i (.int .i64 x.mem) = encM (upd p i x) := by
  match i, h with
  | 0, _ => rfl
  | 1, _ => rfl
  | 2, _ => rfl
  | 3, _ => rfl
  | 4, _ => rfl
  | 5, _ => rfl
  | 6, _ => rfl
  | 7, _ => rfl
  | 8, _ => rfl
  | 9, _ => rfl
  | 10, _ => rfl
  | 11, _ => rfl
  | 12, _ => rfl
  | 13, _ => rfl
  | 14, _ => rfl
  | 15, _ => rfl
  | n + 16, h => omega
def MemAt (w : World) (g : Nat) (p : Nat → Pl) : Prop := w.heap[g]? = some (.cells (encM p) 44 (0, 0))
theorem MemAt.get {w : World} {g : Nat} {p : Nat → Pl} (h : MemAt w g p) (i : Nat) (hi : i < 16) : w.cell? ⟨g, i, none⟩ = some (.int .i64 (p i).mem) := (blk_cell h i).trans (encM_get p i hi)
theorem MemAt.put {w : World} {g : Nat} {p : Nat → Pl} (h : MemAt w g p) (x : Pl) (i : Nat) (hi : i < 16) : MemAt (w.setCell ⟨g, i, none⟩ (.int .i64 x.mem)) g (upd p i x) := blk_put h i _ (encM_put p x i hi)
theorem MemAt.below {w w1 : World} {g : Nat} {p : Nat → Pl} (h : MemAt w g p) (hb : Below w.heap.size w w1) : MemAt w1 g p := blk_below h hb
theorem MemAt.lt {w : World} {g : Nat} {p : Nat → Pl} (h : MemAt w g p) : g < w.heap.size := blk_lt h
theorem MemAt.touch {g g' : Nat} {p : Nat → Pl} {w w1 : World} (h : Touch g w w1) (ha : MemAt w g' p) (hne : g' ≠ g) : MemAt w1 g' p := (h.block g' ha.lt hne).trans ha
theorem MemAt.frozen {w : World} {g : Nat} {p : Nat → Pl} (h : MemAt w g p) (k : Nat) : w.frozen? ⟨g, k, none⟩ = false := blk_frozen h k
theorem MemAt.drawn {w w1 : World} {g : Nat} {p : Nat → Pl} (h : MemAt w g p) (hd : Drawn0 w w1) : MemAt w1 g p := h.below hd.below
theorem At.far {w : World} {g g' : Nat} {s : Led} (h : At w g s) (hne : g ≠ g') (j : Nat) (v : Value) : At (w.setCell ⟨g', j, none⟩ v) g s := blk_far h (p := ⟨g', j, none⟩) hne v
/-- A box with a step. -/
def BoxAt (w : World) (g : Nat) (z : S37) : Prop := w.heap[g]? = some (.cells #[.int .i64 z.f0, .int .i64 z.f1, .int .i64 z.f2] 37 (0, 0))
theorem BoxAt.c0 {w : World} {g : Nat} {z : S37} (h : BoxAt w g z) : w.cell? ⟨g, 0, none⟩ = some (.int .i64 z.f0) := (blk_cell h 0).trans rfl
theorem BoxAt.c1 {w : World} {g : Nat} {z : S37} (h : BoxAt w g z) : w.cell? ⟨g, 1, none⟩ = some (.int .i64 z.f1) := (blk_cell h 1).trans rfl
theorem BoxAt.c2 {w : World} {g : Nat} {z : S37} (h : BoxAt w g z) : w.cell? ⟨g, 2, none⟩ = some (.int .i64 z.f2) := (blk_cell h 2).trans rfl
theorem BoxAt.new (w : World) (z : S37) : BoxAt (w.alloc (.cells #[.int .i64 z.f0, .int .i64 z.f1, .int .i64 z.f2] 37)) w.heap.size z := heap_alloc_new w _
theorem BoxAt.below {w w1 : World} {g : Nat} {z : S37} (h : BoxAt w g z) (hb : Below w.heap.size w w1) : BoxAt w1 g z := blk_below h hb
theorem BoxAt.touch {g g' : Nat} {z : S37} {w w1 : World} (h : Touch g w w1) (ha : BoxAt w g' z) (hne : g' ≠ g) : BoxAt w1 g' z := (h.block g' (blk_lt ha) hne).trans ha

/-! Plain. -/
def heldN (p : Nat → Pl) : Nat → Nat
  | 0 => 0
  | n + 1 => heldN p n + if (p n).held then 1 else 0
theorem heldN_cnt (p : Nat → Pl) : ∀ n, heldN p n + cntFree p n = n
  | 0 => rfl
  | n + 1 => by
    have := heldN_cnt p n
    simp only [heldN, cntFree]
    split <;> omega
theorem heldN_le (p : Nat → Pl) (n : Nat) : heldN p n ≤ n := by have := heldN_cnt p n; omega
theorem heldN_out {p : Nat → Pl} {n : Nat} (h : ∀ i, n ≤ i → (p i).held = false) : ∀ k, heldN p (n + k) = heldN p n
  | 0 => rfl
  | k + 1 => by
    show heldN p (n + k) + (if (p (n + k)).held then 1 else 0) = _
    rw [heldN_out h k, h (n + k) (by omega)]; rfl
/-- What is told of a ledger adds up. -/
theorem bounds {s : Led} (hs : Inv s) : (heldN s.p 16 : Int) + Ld.slots s = (s.many : Int) ∧ s.used = tot s.p 16 := by
  obtain ⟨k, hk⟩ : ∃ k, 16 = s.many + k := ⟨16 - s.many, by have := hs.many; omega⟩
  have h1 := heldN_out (p := s.p) (n := s.many) (fun i hi => by rw [hs.out i hi]; rfl) k
  have h2 := heldN_cnt s.p s.many
  have h3 := tot_out s.p s.many (fun i hi => by rw [hs.out i hi]; rfl) k
  constructor
  · rw [hk, h1]; unfold Ld.slots; omega
  · rw [hk, h3]; exact hs.used
theorem tot_step {s : Led} (hs : Inv s) {k : Nat} (h : k < 16) : 0 ≤ tot s.p k ∧ 0 ≤ (s.p k).mem ∧ tot s.p k + (s.p k).mem ≤ 9223372036854775807 := by
  have h1 := tot_pos s.p hs.mem k
  have h2 := hs.mem k
  obtain ⟨j, hj⟩ : ∃ j, 16 = (k + 1) + j := ⟨16 - (k + 1), by omega⟩
  have h3 := tot_mono s.p hs.mem (k + 1) j
  rw [← hj, ← (bounds hs).2] at h3
  have h4 : tot s.p (k + 1) = tot s.p k + (s.p k).mem := rfl
  have := hs.le
  have := hs.big
  omega
theorem Took.slot_put {s : Led} {id mem : Int} {i : Nat} (h : Took s id mem i) : (takeSt s id mem).p = upd s.p i ⟨true, id, mem⟩ := by rw [h.st]; rfl
theorem Freed.slot_put {s : Led} {id : Int} {i : Nat} (h : Freed s id i) : (freeSt s id).p = upd s.p i nobody := by rw [h.st]; rfl
end Go.Proofs.Ytkldfjlbgmppfab.Ld
