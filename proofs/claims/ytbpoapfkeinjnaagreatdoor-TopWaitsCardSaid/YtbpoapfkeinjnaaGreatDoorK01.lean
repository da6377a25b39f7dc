/- The engine of the yard and what it leans on, part 1. -/
import Derived.Test.YtbpoapfkeinjnaaGreatDoorKW
import Derived.Deep.Slices
import Derived.Deep.Fields
import Derived.ChangeSame
import Derived.ChangeOld
import Derived.WideShapes
import Derived.Carry
import Derived.RowKit
import Derived.Test.YtbpoapfkeinjnaaGreatDoorProg
import Derived.Below
import Derived.Deep.Draws
import Derived.Deep.AppendLies
import Derived.Maps.AppendAt
import Derived.OwnWalk
import Derived.Laws.BytesArg
import Derived.Laws.MakeOwn
import Derived.Laws.OwnMore
import Derived.Deep.OwnRows
import Derived.Tactics
import Derived.Lib.ConvBytes
import Derived.Laws.Slices
import Derived.WalkKit
import Derived.KernelRfl
import Derived.RowKit3
import Derived.Deep.LoopGhost
import Derived.Deep.QuietTactic
import Derived.BigQuiet
import Derived.WideLaws
import Derived.Deep.DeepCutAuto
import Derived.Deep.CutBlock
import Derived.Deep.RegionHeld3
import Derived.Laws.Rows
import Derived.Lib.AppendStr
import Derived.ArgAppend
import Derived.Laws.IdiomCopy
import Derived.OrdersHeld
import Derived.Laws.BitsLemmas
import Derived.WalkSpells
import Derived.StillTactics
import Derived.Laws.Pointers
import Derived.IntWalk
import Derived.WalkLawsBesides
namespace Go.Proofs.YtbpoapfkeinjnaaGreatDoor.Open
open Go.ChangeShapes Go.WideShapes Go.Deep
section
variable {H : Type} {enc : TypeId × Value → H} {P : Program} {w : World} {base : Nat} {spare : Nat → Bool} {held : Bool}
theorem open_slice_fields {t e : TypeId} {fs : Array Field} {fuel : Nat} {cs : List Value} {x : DataW H × List MemPlace} (ht : P.underlying t = some (.slice e)) (he : P.underlying e = some (.struct fs))
    (hone : oneCellFields P fs = true) (hC : P.cellsOf e = fs.size) (h : DataW.trod enc P w base spare held fuel t cs = some x) :
    (cs = [.slice none 0 0] ∧ x = (.nil, [])) ∨
    ∃ (a : Addr) (len cap m : Nat) (D : Nat → DataW H) (Pl : Nat → List MemPlace), cs = [.slice (some a) len cap] ∧ base ≤ a.block ∧ len ≤ cap ∧ cap ≤ maxLen ∧ m = (if spare a.block then cap else len) ∧
      x = (.slice ((List.range len).map D) ((List.range (m - len)).map fun j => D (len + j)), MemPlace.row a (m * fs.size) ++ (List.range m).flatMap Pl) ∧
      ∀ i, i < m → ∃ (ys : List (DataW H × List MemPlace)) (n : Nat), D i = .agg (ys.map (·.1)) ∧ Pl i = ys.flatMap (·.2) ∧ ys.length = fs.size ∧
        ∀ (j : Nat) (f : Field), fs[j]? = some f → ∃ (v : Value) (y : DataW H × List MemPlace), w.cell? (a.add (i * fs.size + j)) = some v ∧ ys[j]? = some y ∧ DataW.trod enc P w base spare held n f.type [v] = some y := by
  rcases open_slice ht h with h0 | ⟨a, len, cap, m, n, D, Pl, hcs, hb, hl, hm, hmm, hx, hi⟩
  · exact .inl h0
  · refine .inr ⟨a, len, cap, m, D, Pl, hcs, hb, hl, hm, hmm, by rw [hC] at hx; exact hx, fun i him => ?_⟩
    obtain ⟨cs', hc, ht'⟩ := hi i him
    rw [hC] at hc
    obtain ⟨ys, n', hn', hy, hlen, hyl, hf⟩ := DataW.trod_struct he ht'
    obtain ⟨_, hcl, hat⟩ := World.cells?_some hc
    simp only [Prod.mk.injEq] at hy
    refine ⟨ys, n', hy.1, hy.2, hyl, fun j f hj => ?_⟩
    obtain ⟨ho, hk⟩ := hone_of hone j f hj
    have hjl : j < fs.size := (Array.getElem?_eq_some_iff.1 hj).1
    have hcell := hat j hjl
    have hv : cs'[j]? = some (cs'[j]'(by omega)) := List.getElem?_eq_getElem (by omega)
    have h1 := hf j f hj
    rw [ho, hk] at h1
    have hone' : (cs'.drop j).take 1 = [cs'[j]'(by omega)] := by
      rw [List.drop_eq_getElem_cons (by omega)]
      rfl
    rw [hone'] at h1
    have hys : ys[j]? = some (ys[j]'(by omega)) := List.getElem?_eq_getElem (by omega)
    refine ⟨_, _, ?_, hys, h1.trans hys⟩
    rw [← Go.Deep.add_add, hcell, hv]

theorem open_structs {t e : TypeId} {fs : Array Field} {a : Option Addr} {len cap : Nat} {d : DataW H} {p : List MemPlace} (ht : P.underlying t = some (.slice e)) (he : P.underlying e = some (.struct fs))
    (hone : oneCellFields P fs = true) (hC : P.cellsOf e = fs.size) (hk : ∀ (j : Nat) (f : Field), fs[j]? = some f → P.underlying f.type = some (.int .i64)) (h : DataW.Trod enc P w base spare held t (.slice a len cap) d p) :
    (a = none ∧ len = 0 ∧ cap = 0) ∨ ∃ ad, a = some ad ∧ len ≤ cap ∧ cap ≤ maxLen ∧ ∀ i, i < len → ∀ j, j < fs.size → ∃ x, w.cell? (ad.add (i * fs.size + j)) = some (.int .i64 x) ∧ (Lit.int .i64 x).wf = true := by
  obtain ⟨fuel, hf⟩ := h
  rcases open_slice_fields ht he hone hC hf with ⟨hcs, _⟩ | ⟨ad, l, c, m, D, Pl, hcs, _, hl, hm, hmm, _, hi⟩
  · simp [Value.cells] at hcs
    exact .inl hcs
  · simp [Value.cells] at hcs
    obtain ⟨rfl, rfl, rfl⟩ := hcs
    refine .inr ⟨ad, rfl, hl, hm, fun i hlt j hj => ?_⟩
    have hlm : i < m := by rw [hmm]; split <;> omega
    obtain ⟨ys, n, _, _, _, hcell⟩ := hi i hlm
    have hfj : fs[j]? = some fs[j] := Array.getElem?_eq_getElem hj
    obtain ⟨v, y, hc, _, htr⟩ := hcell j _ hfj
    obtain ⟨x, hx, _, hw⟩ := DataW.trod_int (hk j _ hfj) htr
    simp at hx
    subst hx
    exact ⟨x, hc, hw⟩

theorem open_bools0 {t e : TypeId} {a : Option Addr} {len cap : Nat} {d : DataW H} {p : List MemPlace} (ht : P.underlying t = some (.slice e)) (he : P.underlying e = some .bool)
    (hC : P.cellsOf e = 1) (h : DataW.Trod enc P w base spare held t (.slice a len cap) d p) :
    (a = none ∧ len = 0 ∧ cap = 0) ∨ ∃ ad, a = some ad ∧ len ≤ cap ∧ cap ≤ maxLen ∧ ∀ i, i < len → ∃ b, w.cell? (ad.add i) = some (.bool b) := by
  obtain ⟨fuel, hf⟩ := h
  rcases open_slice ht hf with ⟨hcs, _⟩ | ⟨ad, l, c, m, n, D, Pl, hcs, _, hl, hm, hmm, _, hi⟩
  · simp [Value.cells] at hcs
    exact .inl hcs
  · simp [Value.cells] at hcs
    obtain ⟨rfl, rfl, rfl⟩ := hcs
    refine .inr ⟨ad, rfl, hl, hm, fun i hlt => ?_⟩
    have hlm : i < m := by rw [hmm]; split <;> omega
    obtain ⟨cs', hc, htr⟩ := hi i hlm
    rw [hC] at hc
    obtain ⟨_, hcl, hat⟩ := World.cells?_some hc
    obtain ⟨b, rfl, _⟩ := DataW.trod_bool he htr
    have h0 := hat 0 (by omega)
    refine ⟨b, ?_⟩
    rw [Nat.mul_one, Go.Deep.add_add, Nat.add_zero] at h0
    exact h0

theorem open_agg {r : Reach} {b0 : Nat} {t : TypeId} {fs : Array Field} {v : Value} {d : DataW H} {p : List MemPlace} (hs : P.underlying t = some (.struct fs)) (hone : oneCellFields P fs = true) (hC : P.cellsOf t = fs.size)
    (hk : ∀ (j : Nat) (f : Field), fs[j]? = some f → P.underlying f.type = some (.int .i64)) (hv : Value.okWide P w r b0 t v) (h : DataW.Trod enc P w base spare held t v d p) :
    ∃ xs : List Int, xs.length = fs.size ∧ v = .agg (xs.map (Value.int .i64)).toArray ∧ ∀ x ∈ xs, (Lit.int .i64 x).wf = true := by
  obtain ⟨cs, rfl, hsz⟩ := okWide_struct hs hv
  obtain ⟨fuel, hf⟩ := h
  obtain ⟨ys, n, _, _, _, _, hg⟩ := DataW.trod_struct hs hf
  have hcs : ∀ j, j < fs.size → ∃ x, cs.toList[j]? = some (.int .i64 x) ∧ (Lit.int .i64 x).wf = true := by
    intro j hj
    have hfj : fs[j]? = some fs[j] := Array.getElem?_eq_getElem hj
    obtain ⟨ho, hk1⟩ := hone_of hone j _ hfj
    have hjl : j < cs.toList.length := by rw [Array.length_toList, hsz, hC]; exact hj
    have h1 := hg j _ hfj
    rw [ho, hk1] at h1
    have hone' : ((Value.agg cs).cells.toList.drop j).take 1 = [cs.toList[j]'hjl] := by
      show (cs.toList.drop j).take 1 = _
      rw [List.drop_eq_getElem_cons hjl]
      rfl
    rw [hone'] at h1
    cases hy : ys[j]? with
    | none => rw [hy] at h1; have := (List.getElem?_eq_none_iff.1 hy); omega
    | some y =>
      rw [hy] at h1
      obtain ⟨x, hx, _, hw⟩ := DataW.trod_int (hk j _ hfj) h1
      simp at hx
      refine ⟨x, ?_, hw⟩
      rw [List.getElem?_eq_getElem hjl, ← hx]
      rfl
  have hlen : cs.toList.length = fs.size := by rw [Array.length_toList, hsz, hC]
  refine ⟨cs.toList.map fun u => match u with | .int _ x => x | _ => 0, by rw [List.length_map, hlen], ?_, ?_⟩
  · congr 1
    apply Array.toList_inj.1
    apply List.ext_getElem?
    intro j
    by_cases hj : j < fs.size
    · obtain ⟨x, hx, _⟩ := hcs j hj
      simp [List.getElem?_map, hx]
    · have h1 : cs.toList[j]? = none := List.getElem?_eq_none (by omega)
      simp [List.getElem?_map, h1]
  · intro x hx
    obtain ⟨u, hu, rfl⟩ := List.mem_map.1 hx
    obtain ⟨j, hj, rfl⟩ := List.getElem_of_mem hu
    obtain ⟨y, hy, hw⟩ := hcs j (by omega)
    rw [List.getElem?_eq_getElem hj] at hy
    rw [Option.some.inj hy]
    exact hw
end

def cellBool (w : World) (a : Addr) : Bool := match w.cell? a with | some (.bool b) => b | _ => false
theorem cellBool_of {w : World} {a : Addr} {b : Bool} (h : w.cell? a = some (.bool b)) : cellBool w a = b := by unfold cellBool; rw [h]

def cellInt (w : World) (a : Addr) : Int := match w.cell? a with | some (.int _ x) => x | _ => 0
theorem cellInt_of {w : World} {a : Addr} {x : Int} (h : w.cell? a = some (.int .i64 x)) : cellInt w a = x := by unfold cellInt; rw [h]
end Go.Proofs.YtbpoapfkeinjnaaGreatDoor.Open
namespace Go.Proofs.YtbpoapfkeinjnaaGreatDoor.Ld
open Go.RowKit Go.Proofs.YtbpoapfkeinjnaaGreatDoorW.PrintWords Go.Proofs.YtbpoapfkeinjnaaGreatDoorW.PrintLast Go.Proofs.YtbpoapfkeinjnaaGreatDoorW.PrintMore
set_option linter.unusedVariables false
set_option linter.unusedSimpArgs false
structure Pl where
  held : Bool
  id : Int
  mem : Int
structure Led where
  budget : Int
  many : Nat
  p : Nat → Pl
  used : Int
def upd (p : Nat → Pl) (i : Nat) (x : Pl) (k : Nat) : Pl := if k = i then x else p k
theorem upd_same (p : Nat → Pl) (i : Nat) (x : Pl) : upd p i x i = x := if_pos rfl
theorem upd_far (p : Nat → Pl) (i : Nat) (x : Pl) {k : Nat} (h : k ≠ i) : upd p i x k = p k := if_neg h
def Led.put (s : Led) (i : Nat) (x : Pl) : Led := { s with p := upd s.p i x }
def Led.uses (s : Led) (n : Int) : Led := { s with used := n }
def enc (s : Led) : Array Value := #[.int .i64 s.budget, .int .i64 (s.many : Int), .bool (s.p 0).held, .int .i64 (s.p 0).id, .int .i64 (s.p 0).mem, .bool (s.p 1).held, .int .i64 (s.p 1).id, .int .i64 (s.p 1).mem, .bool (s.p 2).held, .int .i64 (s.p 2).id, .int .i64 (s.p 2).mem, .bool (s.p 3).held, .int .i64 (s.p 3).id, .int .i64 (s.p 3).mem, .bool (s.p 4).held, .int .i64 (s.p 4).id, .int .i64 (s.p 4).mem, .bool (s.p 5).held, .int .i64 (s.p 5).id, .int .i64 (s.p 5).mem, .bool (s.p 6).held, .int .i64 (s.p 6).id, .int .i64 (s.p 6).mem, .bool (s.p 7).held, .int .i64 (s.p 7).id, .int .i64 (s.p 7).mem, .bool (s.p 8).held, .int .i64 (s.p 8).id, .int .i64 (s.p 8).mem, .bool (s.p 9).held, .int .i64 (s.p 9).id, .int .i64 (s.p 9).mem, .bool (s.p 10).held, .int .i64 (s.p 10).id, .int .i64 (s.p 10).mem, .bool (s.p 11).held, .int .i64 (s.p 11).id, .int .i64 (s.p 11).mem, .bool (s.p 12).held, .int .i64 (s.p 12).id, .int .i64 (s.p 12).mem, .bool (s.p 13).held, .int .i64 (s.p 13).id, .int .i64 (s.p 13).mem, .bool (s.p 14).held, .int .i64 (s.p 14).id, .int .i64 (s.p 14).mem, .bool (s.p 15).held, .int .i64 (s.p 15).id, .int .i64 (s.p 15).mem, .int .i64 s.used]
theorem enc_budget (s : Led) : (enc s)[0]? = some (.int .i64 s.budget) := rfl
theorem enc_many (s : Led) : (enc s)[1]? = some (.int .i64 (s.many : Int)) := rfl
theorem enc_used (s : Led) : (enc s)[50]? = some (.int .i64 s.used) := rfl
theorem enc_held (s : Led) (i : Nat) (h : i < 16) : (enc s)[2 + i * 3]? = some (.bool (s.p i).held) := by
  match i, h with
  | 0, _ => rfl
  | 1, _ => rfl
  | 2, _ => rfl
  | 3, _ => rfl
  | 4, _ => rfl
  | 5, _ => rfl
  | 6, _ => rfl
  | 7, _ => rfl
  | 8, _ => rfl
  | 9, _ => rfl
  | 10, _ => rfl
  | 11, _ => rfl
  | 12, _ => rfl
  | 13, _ => rfl
  | 14, _ => rfl
  | 15, _ => rfl
  | n + 16, h => omega
theorem enc_id (s : Led) (i : Nat) (h : i < 16) : (enc s)[2 + i * 3 + 1]? = some (.int .i64 (s.p i).id) := by
  match i, h with
  | 0, _ => rfl
  | 1, _ => rfl
  | 2, _ => rfl
  | 3, _ => rfl
  | 4, _ => rfl
  | 5, _ => rfl
  | 6, _ => rfl
  | 7, _ => rfl
  | 8, _ => rfl
  | 9, _ => rfl
  | 10, _ => rfl
  | 11, _ => rfl
  | 12, _ => rfl
  | 13, _ => rfl
  | 14, _ => rfl
  | 15, _ => rfl
  | n + 16, h => omega
theorem enc_mem (s : Led) (i : Nat) (h : i < 16) : (enc s)[2 + i * 3 + 2]? = some (.int .i64 (s.p i).mem) := by
  match i, h with
  | 0, _ => rfl
  | 1, _ => rfl
  | 2, _ => rfl
  | 3, _ => rfl
  | 4, _ => rfl
  | 5, _ => rfl
  | 6, _ => rfl
  | 7, _ => rfl
  | 8, _ => rfl
  | 9, _ => rfl
  | 10, _ => rfl
  | 11, _ => rfl
  | 12, _ => rfl
  | 13, _ => rfl
  | 14, _ => rfl
  | 15, _ => rfl
  | n + 16, h => omega
theorem enc_set_used (s : Led) (n : Int) : (enc s).setIfInBounds 50 (.int .i64 n) = enc (s.uses n) := rfl
theorem enc_put (s : Led) (x : Pl) (i : Nat) (h : i < 16) : (((enc s).setIfInBounds (2 + i * 3) (.bool x.held)).setIfInBounds (2 + i * 3 + 1) (.int .i64 x.id)).setIfInBounds (2 + i * 3 + 2) (.int .i64 x.mem) = enc (s.put i x) := by
  match i, h with
  | 0, _ => rfl
  | 1, _ => rfl
  | 2, _ => rfl
  | 3, _ => rfl
  | 4, _ => rfl
  | 5, _ => rfl
  | 6, _ => rfl
  | 7, _ => rfl
  | 8, _ => rfl
  | 9, _ => rfl
  | 10, _ => rfl
  | 11, _ => rfl
  | 12, _ => rfl
  | 13, _ => rfl
  | 14, _ => rfl
  | 15, _ => rfl
  | n + 16, h => omega

def At (w : World) (g : Nat) (s : Led) : Prop := w.heap[g]? = some (.cells (enc s) 139 (0, 0))
theorem At.cell {w : World} {g : Nat} {s : Led} (h : At w g s) (k : Nat) {v : Value} (hk : (enc s)[k]? = some v) : w.cell? ⟨g, k, none⟩ = some v := (blk_cell h k).trans hk
theorem At.budget {w : World} {g : Nat} {s : Led} (h : At w g s) : w.cell? ⟨g, 0, none⟩ = some (.int .i64 s.budget) := h.cell 0 (enc_budget s)
theorem At.many {w : World} {g : Nat} {s : Led} (h : At w g s) : w.cell? ⟨g, 1, none⟩ = some (.int .i64 (s.many : Int)) := h.cell 1 (enc_many s)
theorem At.used {w : World} {g : Nat} {s : Led} (h : At w g s) : w.cell? ⟨g, 50, none⟩ = some (.int .i64 s.used) := h.cell 50 (enc_used s)
theorem At.held {w : World} {g : Nat} {s : Led} (h : At w g s) (i : Nat) (hi : i < 16) : w.cell? ⟨g, 2 + i * 3, none⟩ = some (.bool (s.p i).held) := h.cell _ (enc_held s i hi)
theorem At.id {w : World} {g : Nat} {s : Led} (h : At w g s) (i : Nat) (hi : i < 16) : w.cell? ⟨g, 2 + i * 3 + 1, none⟩ = some (.int .i64 (s.p i).id) := h.cell _ (enc_id s i hi)
theorem At.mem {w : World} {g : Nat} {s : Led} (h : At w g s) (i : Nat) (hi : i < 16) : w.cell? ⟨g, 2 + i * 3 + 2, none⟩ = some (.int .i64 (s.p i).mem) := h.cell _ (enc_mem s i hi)
theorem At.frozen {w : World} {g : Nat} {s : Led} (h : At w g s) (k : Nat) : w.frozen? ⟨g, k, none⟩ = false := blk_frozen h k
theorem At.below {w w1 : World} {g : Nat} {s : Led} (h : At w g s) (hb : Below w.heap.size w w1) : At w1 g s := blk_below h hb
theorem At.lt {w : World} {g : Nat} {s : Led} (h : At w g s) : g < w.heap.size := blk_lt h

structure Touch (g : Nat) (w w' : World) : Prop where
  os : w'.os = w.os
  tape : w'.tape = w.tape
  output : w'.output = w.output
  size : w.heap.size ≤ w'.heap.size
  block : ∀ k, k < w.heap.size → k ≠ g → w'.heap[k]? = w.heap[k]?
theorem Touch.refl (g : Nat) (w : World) : Touch g w w := ⟨rfl, rfl, rfl, Nat.le_refl _, fun _ _ _ => rfl⟩
theorem Touch.trans {g : Nat} {w w1 w2 : World} (h : Touch g w w1) (k : Touch g w1 w2) : Touch g w w2 :=
  ⟨k.os.trans h.os, k.tape.trans h.tape, k.output.trans h.output, Nat.le_trans h.size k.size, fun i hi hn => (k.block i (Nat.lt_of_lt_of_le hi h.size) hn).trans (h.block i hi hn)⟩
theorem Touch.of_below {w w1 : World} (h : Below w.heap.size w w1) (g : Nat) : Touch g w w1 := ⟨h.os, h.tape, h.output, h.size, fun i hi _ => h.block i hi⟩
theorem Touch.set {g : Nat} {w w1 : World} (h : Touch g w w1) (j : Nat) (v : Value) : Touch g w (w1.setCell ⟨g, j, none⟩ v) :=
  ⟨h.os, h.tape, h.output, by simpa [World.setCell] using h.size, fun i hi hn => (Below.heap_setCell w1 ⟨g, j, none⟩ v i hn).trans (h.block i hi hn)⟩
theorem Touch.drewN {g : Nat} {w w1 : World} (h : Touch g w w1) (n : Nat) : Touch g w (w1.drewN n) := ⟨h.os, h.tape, h.output, h.size, h.block⟩
theorem Touch.drew {g : Nat} {w w1 : World} (h : Touch g w w1) : Touch g w w1.drew := ⟨h.os, h.tape, h.output, h.size, h.block⟩
theorem Touch.alloc {g : Nat} {w w1 : World} (h : Touch g w w1) (o : Obj) : Touch g w (w1.alloc o) := h.trans (Touch.of_below (below_alloc (Below.refl _ _) o) g)
theorem Touch.below {B g : Nat} {w0 w w1 : World} (h : Touch g w w1) (hb : Below B w0 w) (hg : B ≤ g) (hB : B ≤ w0.heap.size) : Below B w0 w1 :=
  ⟨h.os.trans hb.os, h.tape.trans hb.tape, h.output.trans hb.output, Nat.le_trans hb.size h.size, fun i hi => (h.block i (by have := hb.size; omega) (by omega)).trans (hb.block i hi)⟩
theorem Touch.at {g g' : Nat} {s : Led} {w w1 : World} (h : Touch g w w1) (ha : At w g' s) (hne : g' ≠ g) : At w1 g' s := (h.block g' ha.lt hne).trans ha

def fnd (q : Pl → Bool) (s : Led) : Int := match (List.range s.many).find? (fun i => q (s.p i)) with | some i => (i : Int) | none => -1
theorem fnd_none {q : Pl → Bool} {s : Led} (h : ∀ i, i < s.many → q (s.p i) = false) : fnd q s = -1 := by
  unfold fnd
  have : (List.range s.many).find? (fun i => q (s.p i)) = none := by
    rw [List.find?_eq_none]; intro i hi; rw [h i (List.mem_range.1 hi)]; simp
  rw [this]
theorem fnd_some {q : Pl → Bool} {s : Led} {i : Nat} (h1 : i < s.many) (h2 : q (s.p i) = true) (h3 : ∀ j, j < i → q (s.p j) = false) : fnd q s = (i : Int) := by
  unfold fnd
  have : (List.range s.many).find? (fun i => q (s.p i)) = some i := by
    rw [List.find?_range_eq_some]
    exact ⟨h2, List.mem_range.2 h1, fun j hj => by rw [h3 j hj]; rfl⟩
  rw [this]
theorem fnd_cases (q : Pl → Bool) (s : Led) : (fnd q s = -1 ∧ ∀ i, i < s.many → q (s.p i) = false) ∨ ∃ i : Nat, fnd q s = (i : Int) ∧ i < s.many ∧ q (s.p i) = true ∧ ∀ j, j < i → q (s.p j) = false := by
  cases h : (List.range s.many).find? (fun i => q (s.p i)) with
  | none =>
    left
    refine ⟨by unfold fnd; rw [h], fun i hi => ?_⟩
    have := List.find?_eq_none.1 h i (List.mem_range.2 hi)
    simpa using this
  | some i =>
    right
    rw [List.find?_range_eq_some] at h
    exact ⟨i, by rw [fnd_some (List.mem_range.1 h.2.1) h.1 (fun j hj => by simpa using h.2.2 j hj)], List.mem_range.1 h.2.1, h.1, fun j hj => by simpa using h.2.2 j hj⟩
end Go.Proofs.YtbpoapfkeinjnaaGreatDoor.Ld
namespace Go.Proofs.YtbpoapfkeinjnaaGreatDoor.Ld
open Go.RowKit Go.Proofs.YtbpoapfkeinjnaaGreatDoorW.PrintWords Go.Proofs.YtbpoapfkeinjnaaGreatDoorW.PrintLast Go.Proofs.YtbpoapfkeinjnaaGreatDoorW.PrintMore
set_option linter.unusedVariables false
set_option linter.unusedSimpArgs false
attribute [local go_sem] max2_int min2_int max_two min_two
def isFree (p : Pl) : Bool := !p.held
def isOf (id : Int) (p : Pl) : Bool := p.held && p.id == id
set_option maxHeartbeats 8000000 in
set_option maxRecDepth 100000 in
theorem free_calls (p : Pl) (w : World) : Calls Tryz.prog 147 #[.agg #[.bool p.held, .int .i64 p.id, .int .i64 p.mem]] w fun e w' => e = .returned (.bool (isFree p)) ∧ Below w.heap.size w w' := by
  go_enter Tryz.func147, Tryz.ntmps147
  go_wp2
  go_ret
  exact ⟨rfl, by repeat (first | exact Below.refl _ _ | apply below_alloc | apply below_drew1 | apply pw_below_drewN)⟩

set_option maxHeartbeats 8000000 in
set_option maxRecDepth 100000 in
theorem of_calls (id : Int) (w : World) : Calls Tryz.prog 130 #[.int .i64 id] w fun e w' => e = .returned (.func (.func 157) #[] #[.pointer (some ⟨w.heap.size, 0, none⟩)]) ∧ w' = w.alloc (.cells #[.int .i64 id] 3) := by
  go_enter Tryz.func130, Tryz.ntmps130
  go_wp2
  go_ret
  exact ⟨rfl, rfl⟩

set_option maxHeartbeats 8000000 in
set_option maxRecDepth 100000 in
theorem ofs_calls (p : Pl) (b : Nat) (id : Int) (w : World) (hc : w.cell? ⟨b, 0, none⟩ = some (.int .i64 id)) : Calls Tryz.prog 157 #[.agg #[.bool p.held, .int .i64 p.id, .int .i64 p.mem], .pointer (some ⟨b, 0, none⟩)] w fun e w' => e = .returned (.bool (isOf id p)) ∧ Below w.heap.size w w' := by
  have hc2 := pw_cell_below (below_alloc (Below.refl _ w) (.cells #[.bool p.held, .int .i64 p.id, .int .i64 p.mem] 136)) hc
  obtain ⟨h, a, m⟩ := p
  simp only at hc2 ⊢
  cases h
  · go_enter Tryz.func157, Tryz.ntmps157
    go_wp2
    go_ret
    exact ⟨rfl, by repeat (first | exact Below.refl _ _ | apply below_alloc | apply below_drew1 | apply pw_below_drewN)⟩
  · go_enter Tryz.func157, Tryz.ntmps157
    go_wp2
    go_ret
    exact ⟨rfl, by repeat (first | exact Below.refl _ _ | apply below_alloc | apply below_drew1 | apply pw_below_drewN)⟩

set_option maxHeartbeats 8000000 in
set_option maxRecDepth 100000 in
theorem findFree_calls (g : Nat) (s : Led) (hm : s.many ≤ 16) (w : World) (ha : At w g s) : Calls Tryz.prog 129 #[.pointer (some ⟨g, 0, none⟩), .func (.func 147) #[] #[]] w fun e w' => e = .returned (.int .i64 (fnd isFree s)) ∧ Below w.heap.size w w' := by
  have c1 := ha.many
  have hm2 : (s.many : Int) ≤ 16 := by omega
  go_enter Tryz.func129, Tryz.ntmps129
  go_wp2
  go_quiet (fail)
  go_wp2
  go_loopg [16] 17 (fun kq v16 wr => ∃ i : Nat, v16 = .int .i64 (i : Int) ∧ Aside0 (kq + i = 17 ∧ i ≤ s.many ∧ (∀ j, j < i → isFree (s.p j) = false) ∧ Below w.heap.size w wr))
  case atStart => exact ⟨0, rfl, ⟨by omega, by omega, fun j hj => by omega, by repeat (first | exact Below.refl _ _ | apply below_alloc | apply below_drew1 | apply pw_below_drewN)⟩⟩
  case round =>
    obtain ⟨i, rfl, hA⟩ := hrel
    obtain ⟨hk, hi, hall, hb⟩ := hA.out
    have HA := Aside0.mk hall
    have HB := Aside0.mk hb
    clear hA hall
    by_cases hlt : i < s.many
    · have har := ha.below hb
      have c2 := har.held i (by omega)
      have c3 := har.id i (by omega)
      have c4 := har.mem i (by omega)
      have p1 : (0 ≤ (i : Int)) = True := eq_true (by omega)
      have p2 : ((i : Int) < (s.many : Int)) = True := eq_true (by omega)
      generalize hp : s.p i = p at c2 c3 c4
      have HP := Aside0.mk hp
      clear hp hb har
      cases hq : isFree p
      all_goals
        go_wp2_with (go_at_call 147; (with_reducible refine (free_calls p _).mono ?_); (try (case hc => exact pw_cell_below (below_alloc HB.out _) hc)); rintro e w2 ⟨rfl, hb2⟩; simp only [hq]; have HB2 := Aside0.mk (below_step (below_alloc HB.out _) hb2); clear hb2)
      · go_roundg (gk - 1)
        case measure => omega
        case rel =>
          refine ⟨i + 1, rfl, ⟨by omega, by omega, fun j hj => ?_, HB2.out⟩⟩
          rcases Nat.lt_succ_iff_lt_or_eq.1 hj with h | rfl
          · exact HA.out j h
          · rw [HP.out]; exact hq
      · go_ret
        exact ⟨by rw [fnd_some hlt (by rw [HP.out]; exact hq) HA.out]; rfl, HB2.out⟩
    · have hi2 : i = s.many := by omega
      have hf := Aside0.mk (fnd_none (q := isFree) (s := s) (fun j hj => HA.out j (by omega)))
      clear hi2
      go_wp2
      go_ret
      exact ⟨by rw [hf.out]; rfl, HB.out⟩

set_option maxHeartbeats 8000000 in
set_option maxRecDepth 100000 in
theorem findOf_calls (g : Nat) (s : Led) (hm : s.many ≤ 16) (b : Nat) (id : Int) (w : World) (ha : At w g s) (hc : w.cell? ⟨b, 0, none⟩ = some (.int .i64 id)) : Calls Tryz.prog 129 #[.pointer (some ⟨g, 0, none⟩), .func (.func 157) #[] #[.pointer (some ⟨b, 0, none⟩)]] w fun e w' => e = .returned (.int .i64 (fnd (isOf id) s)) ∧ Below w.heap.size w w' := by
  have c1 := ha.many
  have hm2 : (s.many : Int) ≤ 16 := by omega
  go_enter Tryz.func129, Tryz.ntmps129
  go_wp2
  go_quiet (fail)
  go_wp2
  go_loopg [16] 17 (fun kq v16 wr => ∃ i : Nat, v16 = .int .i64 (i : Int) ∧ Aside0 (kq + i = 17 ∧ i ≤ s.many ∧ (∀ j, j < i → (isOf id) (s.p j) = false) ∧ Below w.heap.size w wr))
  case atStart => exact ⟨0, rfl, ⟨by omega, by omega, fun j hj => by omega, by repeat (first | exact Below.refl _ _ | apply below_alloc | apply below_drew1 | apply pw_below_drewN)⟩⟩
  case round =>
    obtain ⟨i, rfl, hA⟩ := hrel
    obtain ⟨hk, hi, hall, hb⟩ := hA.out
    have HA := Aside0.mk hall
    have HB := Aside0.mk hb
    clear hA hall
    by_cases hlt : i < s.many
    · have har := ha.below hb
      have c2 := har.held i (by omega)
      have c3 := har.id i (by omega)
      have c4 := har.mem i (by omega)
      have p1 : (0 ≤ (i : Int)) = True := eq_true (by omega)
      have p2 : ((i : Int) < (s.many : Int)) = True := eq_true (by omega)
      generalize hp : s.p i = p at c2 c3 c4
      have HP := Aside0.mk hp
      clear hp hb har
      cases hq : (isOf id) p
      all_goals
        go_wp2_with (go_at_call 157; (with_reducible refine (ofs_calls p b id _ ?hc).mono ?_); (try (case hc => exact pw_cell_below (below_alloc HB.out _) hc)); rintro e w2 ⟨rfl, hb2⟩; simp only [hq]; have HB2 := Aside0.mk (below_step (below_alloc HB.out _) hb2); clear hb2)
      · go_roundg (gk - 1)
        case measure => omega
        case rel =>
          refine ⟨i + 1, rfl, ⟨by omega, by omega, fun j hj => ?_, HB2.out⟩⟩
          rcases Nat.lt_succ_iff_lt_or_eq.1 hj with h | rfl
          · exact HA.out j h
          · rw [HP.out]; exact hq
      · go_ret
        exact ⟨by rw [fnd_some hlt (by rw [HP.out]; exact hq) HA.out]; rfl, HB2.out⟩
    · have hi2 : i = s.many := by omega
      have hf := Aside0.mk (fnd_none (q := (isOf id)) (s := s) (fun j hj => HA.out j (by omega)))
      clear hi2
      go_wp2
      go_ret
      exact ⟨by rw [hf.out]; rfl, HB.out⟩

end Go.Proofs.YtbpoapfkeinjnaaGreatDoor.Ld
namespace Go.Proofs.YtbpoapfkeinjnaaGreatDoor.Ld
open Go.RowKit Go.Proofs.YtbpoapfkeinjnaaGreatDoorW.PrintWords Go.Proofs.YtbpoapfkeinjnaaGreatDoorW.PrintLast Go.Proofs.YtbpoapfkeinjnaaGreatDoorW.PrintMore
set_option linter.unusedVariables false
set_option linter.unusedSimpArgs false
attribute [local go_sem] max2_int min2_int max_two min_two

def slotI (s : Led) (id : Int) : Int := if fnd (isOf id) s < 0 then 0 else fnd (isOf id) s
def slotB (s : Led) (id : Int) : Bool := decide (0 ≤ fnd (isOf id) s)
theorem findFree_r {g : Nat} {s : Led} {r : Int} (hr : fnd isFree s = r) (hm : s.many ≤ 16) (w : World) (ha : At w g s) : Calls Tryz.prog 129 #[.pointer (some ⟨g, 0, none⟩), .func (.func 147) #[] #[]] w fun e w' => e = .returned (.int .i64 r) ∧ Below w.heap.size w w' := by
  subst hr; exact findFree_calls g s hm w ha
theorem findOf_r {g : Nat} {s : Led} {r : Int} (b : Nat) (id : Int) (hr : fnd (isOf id) s = r) (hm : s.many ≤ 16) (w : World) (ha : At w g s) (hc : w.cell? ⟨b, 0, none⟩ = some (.int .i64 id)) : Calls Tryz.prog 129 #[.pointer (some ⟨g, 0, none⟩), .func (.func 157) #[] #[.pointer (some ⟨b, 0, none⟩)]] w fun e w' => e = .returned (.int .i64 r) ∧ Below w.heap.size w w' := by
  subst hr; exact findOf_calls g s hm b id w ha hc
theorem new_cell (w : World) (id : Int) : (w.alloc (.cells #[.int .i64 id] 3)).cell? ⟨w.heap.size, 0, none⟩ = some (.int .i64 id) := (blk_cell (blk_new w _) 0).trans rfl

set_option maxHeartbeats 8000000 in
set_option maxRecDepth 100000 in
theorem Slot_calls (g : Nat) (s : Led) (hm : s.many ≤ 16) (id : Int) (w : World) (ha : At w g s) : Calls Tryz.prog 128 #[.pointer (some ⟨g, 0, none⟩), .int .i64 id] w fun e w' => e = .returned (.tuple #[.int .i64 (slotI s id), .bool (slotB s id)]) ∧ Below w.heap.size w w' := by
  obtain ⟨r, hr⟩ : ∃ r, fnd (isOf id) s = r := ⟨_, rfl⟩
  have HI : Aside0 (slotI s id = if r < 0 then 0 else r) := ⟨by unfold slotI; rw [hr]⟩
  have HJ : Aside0 (slotB s id = decide (0 ≤ r)) := ⟨by unfold slotB; rw [hr]⟩
  have HR := Aside0.mk hr
  clear hr
  by_cases h0 : r < 0
  · go_enter Tryz.func128, Tryz.ntmps128
    go_wp2_with (first
      | (go_at_call 130; (with_reducible refine (of_calls id _).mono ?_); rintro e w1 ⟨rfl, rfl⟩)
      | (go_at_call 129; (with_reducible refine (findOf_r _ id HR.out hm _ ?ha ?hc).mono ?_); (case ha => exact ha.below (below_alloc (Below.refl _ _) _)); (case hc => exact new_cell _ _); rintro e w2 ⟨rfl, hb2⟩; have HB2 := Aside0.mk (below_step (below_alloc (Below.refl _ _) _) hb2); clear hb2))
    go_ret2
    exact ⟨by rw [HI.out, HJ.out, if_pos h0, decide_eq_false (by omega)]; rfl, HB2.out⟩
  · have h1 : 0 ≤ r := by omega
    go_enter Tryz.func128, Tryz.ntmps128
    go_wp2_with (first
      | (go_at_call 130; (with_reducible refine (of_calls id _).mono ?_); rintro e w1 ⟨rfl, rfl⟩)
      | (go_at_call 129; (with_reducible refine (findOf_r _ id HR.out hm _ ?ha ?hc).mono ?_); (case ha => exact ha.below (below_alloc (Below.refl _ _) _)); (case hc => exact new_cell _ _); rintro e w2 ⟨rfl, hb2⟩; have HB2 := Aside0.mk (below_step (below_alloc (Below.refl _ _) _) hb2); clear hb2))
    go_ret2
    exact ⟨by rw [HI.out, HJ.out, if_neg (by omega), decide_eq_true h1]; rfl, HB2.out⟩


set_option maxHeartbeats 8000000 in
set_option maxRecDepth 100000 in
theorem Room_calls (g : Nat) (s : Led) (w : World) (ha : At w g s) (h0 : 0 ≤ s.used) (h1 : s.used ≤ s.budget) (h2 : s.budget ≤ 9223372036854775807) : Calls Tryz.prog 95 #[.pointer (some ⟨g, 0, none⟩)] w fun e w' => e = .returned (.int .i64 (s.budget - s.used)) ∧ Drawn0 w w' := by
  have c1 := ha.used
  have c2 := ha.budget
  go_enter Tryz.func95, Tryz.ntmps95
  go_wp2
  go_quiet (fail)
  go_wp2
  go_ret
  exact ⟨rfl, by repeat (first | exact Drawn0.refl _ | apply Drawn0.step)⟩

def cntFree (p : Nat → Pl) : Nat → Nat
  | 0 => 0
  | n + 1 => cntFree p n + if (p n).held then 0 else 1
theorem cntFree_le (p : Nat → Pl) (n : Nat) : cntFree p n ≤ n := by
  induction n with
  | zero => exact Nat.le_refl _
  | succ n ih => simp only [cntFree]; split <;> omega
def slots (s : Led) : Int := (cntFree s.p s.many : Int)

set_option maxHeartbeats 8000000 in
set_option maxRecDepth 100000 in
theorem Slots_calls (g : Nat) (s : Led) (hm : s.many ≤ 16) (w : World) (ha : At w g s) : Calls Tryz.prog 96 #[.pointer (some ⟨g, 0, none⟩)] w fun e w' => e = .returned (.int .i64 (slots s)) ∧ Below w.heap.size w w' := by
  have c1 := ha.many
  have hm2 : (s.many : Int) ≤ 16 := by omega
  go_enter Tryz.func96, Tryz.ntmps96
  go_wp2
  go_quiet (fail)
  go_wp2
  go_loopg [3, 15] 17 (fun kq v3 v15 wr => ∃ i n : Nat, v15 = .int .i64 (i : Int) ∧ v3 = .int .i64 (n : Int) ∧ Aside0 (kq + i = 17 ∧ i ≤ s.many ∧ n = cntFree s.p i ∧ Below w.heap.size w wr))
  case atStart => exact ⟨0, 0, rfl, rfl, ⟨by omega, by omega, rfl, by repeat (first | exact Below.refl _ _ | apply below_alloc | apply below_drew1 | apply pw_below_drewN)⟩⟩
  case round =>
    obtain ⟨i, n, rfl, rfl, hA⟩ := hrel
    obtain ⟨hk, hi, hn, hb⟩ := hA.out
    have HN := Aside0.mk hn
    have HB := Aside0.mk hb
    have hn2 : n ≤ i := by rw [hn]; exact cntFree_le _ _
    clear hA hn
    by_cases hlt : i < s.many
    · have har := ha.below hb
      have c2 := har.held i (by omega)
      have c3 := har.id i (by omega)
      have c4 := har.mem i (by omega)
      have p1 : (0 ≤ (i : Int)) = True := eq_true (by omega)
      have p2 : ((i : Int) < (s.many : Int)) = True := eq_true (by omega)
      generalize hp : s.p i = p at c2 c3 c4
      have HP := Aside0.mk hp
      clear hp hb har
      obtain ⟨h, a, m⟩ := p
      simp only at c2 c3 c4
      cases h
      · go_wp2
        go_roundg (gk - 1)
        case measure => omega
        case rel => exact ⟨i + 1, n + 1, rfl, rfl, ⟨by omega, by omega, by simp only [cntFree, HP.out, HN.out]; rfl, below_alloc HB.out _⟩⟩
      · go_wp2
        go_roundg (gk - 1)
        case measure => omega
        case rel => exact ⟨i + 1, n, rfl, rfl, ⟨by omega, by omega, by simp only [cntFree, HP.out, HN.out]; rfl, below_alloc HB.out _⟩⟩
    · have hi2 := Aside0.mk (show i = s.many by omega)
      go_wp2
      go_ret
      refine ⟨?_, HB.out⟩
      unfold slots
      rw [← hi2.out, ← HN.out]
      rfl
end Go.Proofs.YtbpoapfkeinjnaaGreatDoor.Ld
namespace Go.Proofs.YtbpoapfkeinjnaaGreatDoor.Ld
open Go.RowKit Go.Proofs.YtbpoapfkeinjnaaGreatDoorW.PrintWords Go.Proofs.YtbpoapfkeinjnaaGreatDoorW.PrintLast Go.Proofs.YtbpoapfkeinjnaaGreatDoorW.PrintMore
set_option linter.unusedVariables false
set_option linter.unusedSimpArgs false
attribute [local go_sem] max2_int min2_int max_two min_two

def atI (s : Led) (k : Int) : Int := if 0 ≤ k ∧ k < s.many then (s.p k.toNat).id else 0
def atB (s : Led) (k : Int) : Bool := if 0 ≤ k ∧ k < s.many then (s.p k.toNat).held else false

set_option maxHeartbeats 8000000 in
set_option maxRecDepth 100000 in
theorem At_calls (g : Nat) (s : Led) (hm : s.many ≤ 16) (k : Int) (w : World) (ha : At w g s) : Calls Tryz.prog 60 #[.pointer (some ⟨g, 0, none⟩), .int .i64 k] w fun e w' => e = .returned (.tuple #[.int .i64 (atI s k), .bool (atB s k)]) ∧ Below w.heap.size w w' := by
  have c1 := ha.many
  have hm2 : (s.many : Int) ≤ 16 := by omega
  by_cases hk : 0 ≤ k ∧ k < s.many
  · have HI : Aside0 (atI s k = (s.p k.toNat).id) := ⟨if_pos hk⟩
    have HJ : Aside0 (atB s k = (s.p k.toNat).held) := ⟨if_pos hk⟩
    obtain ⟨h0, h1⟩ := hk
    obtain ⟨i, rfl⟩ := Int.eq_ofNat_of_zero_le h0
    have hi : i < s.many := by omega
    simp only [Int.toNat_natCast] at HI HJ
    have c2 := ha.held i (by omega)
    have c3 := ha.id i (by omega)
    have c4 := ha.mem i (by omega)
    have q1 : (i : Int) < 16 := by omega
    have q2 : ¬ (s.many : Int) ≤ (i : Int) := by omega
    have q3 : ¬ s.many ≤ i := by omega
    go_enter Tryz.func60, Tryz.ntmps60
    go_wp2
    go_quiet (fail)
    go_wp2
    go_ret2
    exact ⟨by rw [HI.out, HJ.out]; rfl, by repeat (first | exact Below.refl _ _ | apply below_alloc | apply below_drew1 | apply pw_below_drewN)⟩
  · have HI : Aside0 (atI s k = 0) := ⟨if_neg hk⟩
    have HJ : Aside0 (atB s k = false) := ⟨if_neg hk⟩
    by_cases h0 : k < 0
    · go_enter Tryz.func60, Tryz.ntmps60
      go_wp2
      go_ret2
      exact ⟨by rw [HI.out, HJ.out]; rfl, by repeat (first | exact Below.refl _ _ | apply below_alloc | apply below_drew1 | apply pw_below_drewN)⟩
    · have h1 : (s.many : Int) ≤ k := by omega
      have h2 : ¬ k < 0 := h0
      clear hk h0
      go_enter Tryz.func60, Tryz.ntmps60
      go_wp2
      go_ret2
      exact ⟨by rw [HI.out, HJ.out]; rfl, by repeat (first | exact Below.refl _ _ | apply below_alloc | apply below_drew1 | apply pw_below_drewN)⟩

def nobody : Pl := ⟨false, 0, 0⟩
def pos (n : Int) : Int := if n < 0 then 0 else n
def fresh (budget slots : Int) : Led := ⟨pos budget, (if 16 < pos slots then 16 else pos slots).toNat, fun _ => nobody, 0⟩

theorem fresh_at (w : World) (budget slots b m : Int) (hb : pos budget = b) (hm : (if 16 < pos slots then 16 else pos slots) = m) (h0 : 0 ≤ m) : At (w.alloc (.cells #[.int .i64 b, .int .i64 m, .bool false, .int .i64 0, .int .i64 0, .bool false, .int .i64 0, .int .i64 0, .bool false, .int .i64 0, .int .i64 0, .bool false, .int .i64 0, .int .i64 0, .bool false, .int .i64 0, .int .i64 0, .bool false, .int .i64 0, .int .i64 0, .bool false, .int .i64 0, .int .i64 0, .bool false, .int .i64 0, .int .i64 0, .bool false, .int .i64 0, .int .i64 0, .bool false, .int .i64 0, .int .i64 0, .bool false, .int .i64 0, .int .i64 0, .bool false, .int .i64 0, .int .i64 0, .bool false, .int .i64 0, .int .i64 0, .bool false, .int .i64 0, .int .i64 0, .bool false, .int .i64 0, .int .i64 0, .bool false, .int .i64 0, .int .i64 0, .int .i64 0] 139)) w.heap.size (fresh budget slots) := by
  obtain ⟨k, rfl⟩ := Int.eq_ofNat_of_zero_le h0
  subst hb
  unfold fresh
  rw [hm]
  exact heap_alloc_new w _

set_option maxHeartbeats 8000000 in
set_option maxRecDepth 100000 in
theorem New_calls (budget slots : Int) (w : World) : Calls Tryz.prog 36 #[.int .i64 budget, .int .i64 slots] w fun e w' => e = .returned (.pointer (some ⟨w.heap.size, 0, none⟩)) ∧ At w' w.heap.size (fresh budget slots) ∧ Below w.heap.size w w' := by
  go_enter Tryz.func36, Tryz.ntmps36
  go_wp2
  all_goals
    go_ret
    refine ⟨rfl, fresh_at w budget slots _ _ ?_ ?_ ?_, by repeat (first | exact Below.refl _ _ | apply below_alloc | apply below_drew1 | apply pw_below_drewN)⟩
    · unfold pos; split <;> omega
    · unfold pos; (repeat' split) <;> omega
    · omega
end Go.Proofs.YtbpoapfkeinjnaaGreatDoor.Ld
