/- Opening an argument: a struct of whole numbers by value, a slice of structs of whole numbers (any number of fields); carried over a call that leaves all elder memory as it was. -/
import Derived.Deep.Slices
import Derived.Deep.Fields
import Derived.ChangeSame
import Derived.ChangeOld
import Derived.WideShapes
import Derived.Carry
import Derived.RowKit
namespace Go.Proofs.Ytkldfjlbgmppfab.Open
open Go.ChangeShapes Go.WideShapes Go.Deep
section
variable {H : Type} {enc : TypeId × Value → H} {P : Program} {w : World} {base : Nat} {spare : Nat → Bool} {held : Bool}
theorem open_slice_fields {t e : TypeId} {fs : Array Field} {fuel : Nat} {cs : List Value} {x : DataW H × List MemPlace} (ht : P.underlying t = some (.slice e)) (he : P.underlying e = some (.struct fs))
    (hone : oneCellFields P fs = true) (hC : P.cellsOf e = fs.size) (h : DataW.trod enc P w base spare held fuel t cs = some x) :
    (cs = [.slice none 0 0] ∧ x = (.nil, [])) ∨
    ∃ (a : Addr) (len cap m : Nat) (D : Nat → DataW H) (Pl : Nat → List MemPlace), cs = [.slice (some a) len cap] ∧ base ≤ a.block ∧ len ≤ cap ∧ cap ≤ maxLen ∧ m = (if spare a.block then cap else len) ∧
      x = (.slice ((List.range len).map D) ((List.range (m - len)).map fun j => D (len + j)), MemPlace.row a (m * fs.size) ++ (List.range m).flatMap Pl) ∧
      ∀ i, i < m → ∃ (ys : List (DataW H × List MemPlace)) (n : Nat), D i = .agg (ys.map (·.1)) ∧ Pl i = ys.flatMap (·.2) ∧ ys.length = fs.size ∧
        ∀ (j : Nat) (f : Field), fs[j]? = some f → ∃ (v : Value) (y : DataW H × List MemPlace), w.cell? (a.add (i * fs.size + j)) = some v ∧ ys[j]? = some y ∧ DataW.trod enc P w base spare held n f.type [v] = some y := by
  rcases open_slice ht h with h0 | ⟨a, len, cap, m, n, D, Pl, hcs, hb, hl, hm, hmm, hx, hi⟩
  · exact .inl h0
  · refine .inr ⟨a, len, cap, m, D, Pl, hcs, hb, hl, hm, hmm, by rw [hC] at hx; exact hx, fun i him => ?_⟩
    obtain ⟨cs', hc, ht'⟩ := hi i him
    rw [hC] at hc
    obtain ⟨ys, n', hn', hy, hlen, hyl, hf⟩ := DataW.trod_struct he ht'
    obtain ⟨_, hcl, hat⟩ := World.cells?_some hc
    simp only [Prod.mk.injEq] at hy
    refine ⟨ys, n', hy.1, hy.2, hyl, fun j f hj => ?_⟩
    obtain ⟨ho, hk⟩ := hone_of hone j f hj
    have hjl : j < fs.size := (Array.getElem?_eq_some_iff.1 hj).1
    have hcell := hat j hjl
    have hv : cs'[j]? = some (cs'[j]'(by omega)) := List.getElem?_eq_getElem (by omega)
    have h1 := hf j f hj
    rw [ho, hk] at h1
    have hone' : (cs'.drop j).take 1 = [cs'[j]'(by omega)] := by
      rw [List.drop_eq_getElem_cons (by omega)]
      rfl
    rw [hone'] at h1
    have hys : ys[j]? = some (ys[j]'(by omega)) := List.getElem?_eq_getElem (by omega)
    refine ⟨_, _, ?_, hys, h1.trans hys⟩
    rw [← Go.Deep.add_add, hcell, hv]

/-- A slice of structs of whole numbers. -/
theorem open_structs {t e : TypeId} {fs : Array Field} {a : Option Addr} {len cap : Nat} {d : DataW H} {p : List MemPlace} (ht : P.underlying t = some (.slice e)) (he : P.underlying e = some (.struct fs))
    (hone : oneCellFields P fs = true) (hC : P.cellsOf e = fs.size) (hk : ∀ (j : Nat) (f : Field), fs[j]? = some f → P.underlying f.type = some (.int .i64)) (h : DataW.Trod enc P w base spare held t (.slice a len cap) d p) :
    (a = none ∧ len = 0 ∧ cap = 0) ∨ ∃ ad, a = some ad ∧ len ≤ cap ∧ cap ≤ maxLen ∧ ∀ i, i < len → ∀ j, j < fs.size → ∃ x, w.cell? (ad.add (i * fs.size + j)) = some (.int .i64 x) ∧ (Lit.int .i64 x).wf = true := by
  obtain ⟨fuel, hf⟩ := h
  rcases open_slice_fields ht he hone hC hf with ⟨hcs, _⟩ | ⟨ad, l, c, m, D, Pl, hcs, _, hl, hm, hmm, _, hi⟩
  · simp [Value.cells] at hcs
    exact .inl hcs
  · simp [Value.cells] at hcs
    obtain ⟨rfl, rfl, rfl⟩ := hcs
    refine .inr ⟨ad, rfl, hl, hm, fun i hlt j hj => ?_⟩
    have hlm : i < m := by rw [hmm]; split <;> omega
    obtain ⟨ys, n, _, _, _, hcell⟩ := hi i hlm
    have hfj : fs[j]? = some fs[j] := Array.getElem?_eq_getElem hj
    obtain ⟨v, y, hc, _, htr⟩ := hcell j _ hfj
    obtain ⟨x, hx, _, hw⟩ := DataW.trod_int (hk j _ hfj) htr
    simp at hx
    subst hx
    exact ⟨x, hc, hw⟩

/-- A slice of bools. -/
theorem open_bools0 {t e : TypeId} {a : Option Addr} {len cap : Nat} {d : DataW H} {p : List MemPlace} (ht : P.underlying t = some (.slice e)) (he : P.underlying e = some .bool)
    (hC : P.cellsOf e = 1) (h : DataW.Trod enc P w base spare held t (.slice a len cap) d p) :
    (a = none ∧ len = 0 ∧ cap = 0) ∨ ∃ ad, a = some ad ∧ len ≤ cap ∧ cap ≤ maxLen ∧ ∀ i, i < len → ∃ b, w.cell? (ad.add i) = some (.bool b) := by
  obtain ⟨fuel, hf⟩ := h
  rcases open_slice ht hf with ⟨hcs, _⟩ | ⟨ad, l, c, m, n, D, Pl, hcs, _, hl, hm, hmm, _, hi⟩
  · simp [Value.cells] at hcs
    exact .inl hcs
  · simp [Value.cells] at hcs
    obtain ⟨rfl, rfl, rfl⟩ := hcs
    refine .inr ⟨ad, rfl, hl, hm, fun i hlt => ?_⟩
    have hlm : i < m := by rw [hmm]; split <;> omega
    obtain ⟨cs', hc, htr⟩ := hi i hlm
    rw [hC] at hc
    obtain ⟨_, hcl, hat⟩ := World.cells?_some hc
    obtain ⟨b, rfl, _⟩ := DataW.trod_bool he htr
    have h0 := hat 0 (by omega)
    refine ⟨b, ?_⟩
    rw [Nat.mul_one, Go.Deep.add_add, Nat.add_zero] at h0
    exact h0

/-- A struct of whole numbers, by value. -/
theorem open_agg {r : Reach} {b0 : Nat} {t : TypeId} {fs : Array Field} {v : Value} {d : DataW H} {p : List MemPlace} (hs : P.underlying t = some (.struct fs)) (hone : oneCellFields P fs = true) (hC : P.cellsOf t = fs.size)
    (hk : ∀ (j : Nat) (f : Field), fs[j]? = some f → P.underlying f.type = some (.int .i64)) (hv : Value.okWide P w r b0 t v) (h : DataW.Trod enc P w base spare held t v d p) :
    ∃ xs : List Int, xs.length = fs.size ∧ v = .agg (xs.map (Value.int .i64)).toArray ∧ ∀ x ∈ xs, (Lit.int .i64 x).wf = true := by
  obtain ⟨cs, rfl, hsz⟩ := okWide_struct hs hv
  obtain ⟨fuel, hf⟩ := h
  obtain ⟨ys, n, _, _, _, _, hg⟩ := DataW.trod_struct hs hf
  have hcs : ∀ j, j < fs.size → ∃ x, cs.toList[j]? = some (.int .i64 x) ∧ (Lit.int .i64 x).wf = true := by
    intro j hj
    have hfj : fs[j]? = some fs[j] := Array.getElem?_eq_getElem hj
    obtain ⟨ho, hk1⟩ := hone_of hone j _ hfj
    have hjl : j < cs.toList.length := by rw [Array.length_toList, hsz, hC]; exact hj
    have h1 := hg j _ hfj
    rw [ho, hk1] at h1
    have hone' : ((Value.agg cs).cells.toList.drop j).take 1 = [cs.toList[j]'hjl] := by
      show (cs.toList.drop j).take 1 = _
      rw [List.drop_eq_getElem_cons hjl]
      rfl
    rw [hone'] at h1
    cases hy : ys[j]? with
    | none => rw [hy] at h1; have := (List.getElem?_eq_none_iff.1 hy); omega
    | some y =>
      rw [hy] at h1
      obtain ⟨x, hx, _, hw⟩ := DataW.trod_int (hk j _ hfj) h1
      simp at hx
      refine ⟨x, ?_, hw⟩
      rw [List.getElem?_eq_getElem hjl, ← hx]
      rfl
  have hlen : cs.toList.length = fs.size := by rw [Array.length_toList, hsz, hC]
  refine ⟨cs.toList.map fun u => match u with | .int _ x => x | _ => 0, by rw [List.length_map, hlen], ?_, ?_⟩
  · congr 1
    apply Array.toList_inj.1
    apply List.ext_getElem?
    intro j
    by_cases hj : j < fs.size
    · obtain ⟨x, hx, _⟩ := hcs j hj
      simp [List.getElem?_map, hx]
    · have h1 : cs.toList[j]? = none := List.getElem?_eq_none (by omega)
      simp [List.getElem?_map, h1]
  · intro x hx
    obtain ⟨u, hu, rfl⟩ := List.mem_map.1 hx
    obtain ⟨j, hj, rfl⟩ := List.getElem_of_mem hu
    obtain ⟨y, hy, hw⟩ := hcs j (by omega)
    rw [List.getElem?_eq_getElem hj] at hy
    rw [Option.some.inj hy]
    exact hw
end

/-- The Bool in a cell. -/
def cellBool (w : World) (a : Addr) : Bool := match w.cell? a with | some (.bool b) => b | _ => false
theorem cellBool_of {w : World} {a : Addr} {b : Bool} (h : w.cell? a = some (.bool b)) : cellBool w a = b := by unfold cellBool; rw [h]

/-- The number in a cell. -/
def cellInt (w : World) (a : Addr) : Int := match w.cell? a with | some (.int _ x) => x | _ => 0
theorem cellInt_of {w : World} {a : Addr} {x : Int} (h : w.cell? a = some (.int .i64 x)) : cellInt w a = x := by unfold cellInt; rw [h]
end Go.Proofs.Ytkldfjlbgmppfab.Open
