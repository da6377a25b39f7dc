/- The row of the law RatioApart: its arguments opened, the contract of its function, and what the plain law says of it. No condition. -/
import Derived.Test.YtkldfjlbgmppfacRows
import Derived.Test.YtkldfjlbgmppfacOpen
import Derived.Test.YtkldfjlbgmppfacXd
import Derived.WalkKit
import Derived.ProofKit
import Derived.OpenShut
import Derived.ShutString
import Derived.ChangeOld
import Derived.Below
import Derived.SizedLaws
import Derived.Test.YtkldfjlbgmppfacWSized
namespace Go.Proofs.Ytkldfjlbgmppfac.ratioApart
open Go.ChangeShapes Go.WideShapes Go.ChangeAt Go.RowKit Go.Proofs.Ytkldfjlbgmppfac.Open Go.Proofs.Ytkldfjlbgmppfac.Fl Go.Proofs.YtkldfjlbgmppfacW.PrintWords
open Go.ChangeMaps (open_string shut_string)
set_option linter.unusedVariables false
theorem own : ownKnob Try.prog.godebug = none := by kernel_rfl
theorem laidOut : laidOutB Try.prog = true := by kernel_rfl
def IsRow (k : IntKind) (w : World) (a : Option Addr) (len cap : Nat) (zs : List Int) : Prop :=
  (a = none ∧ len = 0 ∧ cap = 0 ∧ zs = []) ∨
  ∃ x, a = some x ∧ len ≤ cap ∧ cap ≤ maxLen ∧ zs.length = cap ∧ (∀ i, i < zs.length → w.cell? (x.add i) = some (.int k (zs.getD i 0))) ∧ ∀ n ∈ zs, (Lit.int k n).wf = true
theorem fields30 : ∀ (j : Nat) (f : Field), (match Try.prog.underlying 30 with | some (.struct fs) => fs[j]? | _ => none) = some f → Try.prog.underlying f.type = some (.int .i64) := by
  intro j f h
  rw [Try.underlying30] at h
  match j, h with
  | 0, h => simp at h; subst h; exact Try.underlying3
  | 1, h => simp at h; subst h; exact Try.underlying3
  | _ + 2, h => simp at h
theorem rows30 {W : World} {a : Option Addr} {len cap : Nat} (h : (a = none ∧ len = 0 ∧ cap = 0) ∨ ∃ ad, a = some ad ∧ len ≤ cap ∧ cap ≤ maxLen ∧ ∀ i, i < len → ∀ j, j < 2 → ∃ x, W.cell? (ad.add (i * 2 + j)) = some (.int .i64 x) ∧ (Lit.int .i64 x).wf = true) :
    ∃ l : List S30, len = l.length ∧ Kd.C k30 W a l.length l ∧ l.length ≤ cap ∧ l.length ≤ maxLen ∧ ∀ p ∈ l, (Lit.int .i64 p.f0).wf = true ∧ (Lit.int .i64 p.f1).wf = true := by
  rcases h with ⟨rfl, rfl, rfl⟩ | ⟨ad, rfl, hl, hm, hc⟩
  · exact ⟨[], rfl, ⟨rfl, by simp, fun h => by simp at h⟩, Nat.le_refl _, by simp, fun p hp => by simp at hp⟩
  · have hat : ∀ i, i < len → ∀ j, j < 2 → W.cell? (ad.add (i * 2 + j)) = some (.int .i64 (cellInt W (ad.add (i * 2 + j)))) ∧ (Lit.int .i64 (cellInt W (ad.add (i * 2 + j)))).wf = true := by
      intro i hi j hj
      obtain ⟨x, hx, hw⟩ := hc i hi j hj
      rw [cellInt_of hx]
      exact ⟨hx, hw⟩
    obtain ⟨l, hl2⟩ : ∃ l : List S30, l = (List.range len).map fun i => (⟨cellInt W (ad.add (i * 2 + 0)), cellInt W (ad.add (i * 2 + 1))⟩ : S30) := ⟨_, rfl⟩
    have hlen : l.length = len := by rw [hl2]; simp
    have hget : ∀ j p, l[j]? = some p → j < len ∧ p = (⟨cellInt W (ad.add (j * 2 + 0)), cellInt W (ad.add (j * 2 + 1))⟩ : S30) := by
      intro j p hj
      have hlt : j < l.length := (List.getElem?_eq_some_iff.1 hj).1
      rw [hl2, List.getElem?_map, List.getElem?_range (by omega)] at hj
      simp at hj
      exact ⟨by omega, hj.symm⟩
    refine ⟨l, hlen.symm, ?_, by omega, by omega, ?_⟩
    · refine ⟨rfl, by unfold maxLen at hm; omega, fun _ => ⟨ad, rfl, fun j p hj => ⟨[.int .i64 p.f0, .int .i64 p.f1], rfl, k30_mk W p, fun i u hu => ?_⟩⟩⟩
      obtain ⟨hlt, rfl⟩ := hget j p hj
      show W.cell? (ad.add (j * 2 + i)) = some u
      match i, hu with
      | 0, hu => simp at hu; subst hu; exact (hat j hlt 0 (by omega)).1
      | 1, hu => simp at hu; subst hu; exact (hat j hlt 1 (by omega)).1
      | _ + 2, hu => simp at hu
    · intro p hp
      obtain ⟨j, hj, rfl⟩ := List.getElem_of_mem hp
      obtain ⟨hlt, e⟩ := hget j _ (List.getElem?_eq_getElem hj)
      rw [e]
      exact ⟨(hat j hlt 0 (by omega)).2, (hat j hlt 1 (by omega)).2⟩
set_option maxRecDepth 100000 in
theorem lifted (os : Os) (started : os.Started) (H : Type) (enc : TypeId × Value → H) :
    ReturnsInHanded {} Try.checked os 3 .any (Rows.ratioApartSpec.pre6 enc Try.prog Try.f3 Rows.ratioApartRow.domain false) (Rows.ratioApartSpec.post enc Try.prog Try.f3 false true false false) := by
  refine returnsInHanded_of_change_sized (C := Try.checked) own started (by kernel_rfl) Try.func3
    (ChangeSpec.witness6 (enc := enc) (C := Try.checked) false ⟨#[], #[.slice none 0 0], []⟩ 8 (by kernel_rfl) (by kernel_rfl) (by kernel_rfl) (by kernel_rfl)) ?_
  intro W base args ds gs before hval0 hW hcnd hsz0 _
  have hsz : (DataW.weightsEach Try.prog (Try.f3.params.toList ++ Rows.ratioApartSpec.plain.varTypes Try.prog) (ds ++ gs)).all (· ≤ reachBytes) = true := hsz0
  have hval : ∀ (j : Nat) t v, Try.f3.params[j]? = some t → args[j]? = some v → Value.okWide Try.prog W .any base t v := hval0
  have hW' := hW
  obtain ⟨p, q, hA0, hV, rfl, hfz, hnd⟩ := hW
  have hA : DataW.TrodAll enc Try.prog W 0 (fun _ => true) true Try.f3.params.toList args.toList ds p := hA0
  rw [Try.params3] at hA hval hsz
  obtain ⟨v0, vs0, d0, ds0, p0, q0, hargs, rfl, rfl, h0, r0⟩ := trodAll_cons hA
  obtain ⟨rfl, rfl, rfl⟩ := trodAll_nil r0
  obtain rfl : args = #[v0] := by cases args; simp_all
  obtain ⟨rfl, rfl⟩ := trodVars_none hV
  obtain ⟨A0, len0, c0, rfl⟩ := okWide_slice Try.underlying22 (hval 0 22 v0 rfl rfl)
  have k0 := h0
  have lt0 : ∀ x ∈ p0, x.block < W.heap.size := by obtain ⟨m, hm⟩ := k0; exact DataW.trod_lt m _ _ _ hm
  obtain ⟨l0, rfl, hr0, hc0, hm0, w0⟩ := rows30 (open_structs Try.underlying22 Try.underlying30 (by kernel_rfl) (by kernel_rfl) (by have z := fields30; rw [Try.underlying30] at z; exact z) h0)
  clear hA0 hval0 hsz0 hsz
  obtain ⟨k, h⟩ := (⟨0, rfl⟩ : ∃ k : Nat, k = 0)
  refine (RatioApart_calls A0 l0 c0 W hr0).mono fun e W' ⟨he, bel⟩ => ?_
  subst he
  exact ⟨_, rfl, _, _, _, [], _, [], hW', trodAll_mk1 (shut_bool Try.underlying4 _), (trodAll_cons_mk (Below.trod laidOut (by kernel_rfl) (of_decide_eq_true (by kernel_rfl)) k0 bel lt0) trodAll_mk0), rfl, bel.frame _, fun h => by cases h⟩
theorem over : Rows.ratioApartRow.holds Try.pinned (OpenSpec.ofChange Rows.ratioApartSpec) :=
  OpenClaim.holds_of_wide 3 Try.f3 rfl rfl rfl rfl rfl rfl rfl ⟨rfl, rfl, rfl, rfl, rfl⟩ rfl rfl rfl rfl rfl (by kernel_rfl) Try.func3 (by kernel_rfl)
    (of_decide_eq_true (by kernel_rfl)) (by unfold Func.isWrapper; first | (rw [if_pos (by decide +kernel)]; kernel_rfl) | (rw [if_neg (by decide +kernel)]; exact ⟨rfl, rfl⟩))
    (fun os started H enc _ => lifted os started H enc)
theorem proved : Rows.RatioApartSaid := over
end Go.Proofs.Ytkldfjlbgmppfac.ratioApart
namespace Go.Proofs.Ytkldfjlbgmppfac
/-- The row, under a short name, for the claim. -/
theorem ratioApart_holds : Rows.RatioApartSaid := ratioApart.proved
end Go.Proofs.Ytkldfjlbgmppfac
