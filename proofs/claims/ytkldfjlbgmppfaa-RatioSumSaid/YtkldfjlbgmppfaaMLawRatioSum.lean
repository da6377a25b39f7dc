/- The row of the law RatioSum: its arguments opened, the contract of its function, and what the plain law says of it. No condition. -/
import Derived.Test.YtkldfjlbgmppfaaRows
import Derived.Test.YtkldfjlbgmppfaaOpen
import Derived.Test.YtkldfjlbgmppfaaRm
import Derived.WalkKit
import Derived.ProofKit
import Derived.OpenShut
import Derived.ShutString
import Derived.ChangeOld
import Derived.Below
import Derived.SizedLaws
import Derived.Test.YtkldfjlbgmppfaaWSized
namespace Go.Proofs.Ytkldfjlbgmppfaa.ratioSum
open Go.ChangeShapes Go.WideShapes Go.ChangeAt Go.RowKit Go.Proofs.Ytkldfjlbgmppfaa.Open Go.Proofs.Ytkldfjlbgmppfaa.Fl Go.Proofs.YtkldfjlbgmppfaaW.PrintWords
open Go.ChangeMaps (open_string shut_string)
set_option linter.unusedVariables false
theorem own : ownKnob Try.prog.godebug = none := by kernel_rfl
theorem laidOut : laidOutB Try.prog = true := by kernel_rfl
def IsRow (k : IntKind) (w : World) (a : Option Addr) (len cap : Nat) (zs : List Int) : Prop :=
  (a = none ∧ len = 0 ∧ cap = 0 ∧ zs = []) ∨
  ∃ x, a = some x ∧ len ≤ cap ∧ cap ≤ maxLen ∧ zs.length = cap ∧ (∀ i, i < zs.length → w.cell? (x.add i) = some (.int k (zs.getD i 0))) ∧ ∀ n ∈ zs, (Lit.int k n).wf = true
theorem fields49 : ∀ (j : Nat) (f : Field), (match Try.prog.underlying 49 with | some (.struct fs) => fs[j]? | _ => none) = some f → Try.prog.underlying f.type = some (.int .i64) := by
  intro j f h
  rw [Try.underlying49] at h
  match j, h with
  | 0, h => simp at h; subst h; exact Try.underlying3
  | 1, h => simp at h; subst h; exact Try.underlying3
  | _ + 2, h => simp at h
theorem list2 : ∀ (xs : List Int), xs.length = 2 → ∃ y0 y1, xs = [y0, y1]
  | [y0, y1], _ => ⟨_, _, rfl⟩
set_option maxRecDepth 100000 in
theorem lifted (os : Os) (started : os.Started) (H : Type) (enc : TypeId × Value → H) :
    ReturnsInHanded {} Try.checked os 10 .any (Rows.ratioSumSpec.pre6 enc Try.prog Try.f10 Rows.ratioSumRow.domain false) (Rows.ratioSumSpec.post enc Try.prog Try.f10 false true false false) := by
  refine returnsInHanded_of_change_sized (C := Try.checked) own started (by kernel_rfl) Try.func10
    (ChangeSpec.witness6 (enc := enc) (C := Try.checked) false ⟨#[], #[.agg #[.int .i64 0, .int .i64 0], .agg #[.int .i64 0, .int .i64 0]], []⟩ 8 (by kernel_rfl) (by kernel_rfl) (by kernel_rfl) (by kernel_rfl)) ?_
  intro W base args ds gs before hval0 hW hcnd hsz0 _
  have hsz : (DataW.weightsEach Try.prog (Try.f10.params.toList ++ Rows.ratioSumSpec.plain.varTypes Try.prog) (ds ++ gs)).all (· ≤ reachBytes) = true := hsz0
  have hval : ∀ (j : Nat) t v, Try.f10.params[j]? = some t → args[j]? = some v → Value.okWide Try.prog W .any base t v := hval0
  have hW' := hW
  obtain ⟨p, q, hA0, hV, rfl, hfz, hnd⟩ := hW
  have hA : DataW.TrodAll enc Try.prog W 0 (fun _ => true) true Try.f10.params.toList args.toList ds p := hA0
  rw [Try.params10] at hA hval hsz
  obtain ⟨v0, vs0, d0, ds0, p0, q0, hargs, rfl, rfl, h0, r0⟩ := trodAll_cons hA
  obtain ⟨v1, vs1, d1, ds1, p1, q1, rfl, rfl, rfl, h1, r1⟩ := trodAll_cons r0
  obtain ⟨rfl, rfl, rfl⟩ := trodAll_nil r1
  obtain rfl : args = #[v0, v1] := by cases args; simp_all
  obtain ⟨rfl, rfl⟩ := trodVars_none hV
  have u0 := (hval 0 49 v0 rfl rfl)
  have k0 := h0
  have lt0 : ∀ x ∈ p0, x.block < W.heap.size := by obtain ⟨m, hm⟩ := k0; exact DataW.trod_lt m _ _ _ hm
  obtain ⟨xs0, hn0, rfl, w0⟩ := open_agg Try.underlying49 (by kernel_rfl) (by kernel_rfl) (by have z := fields49; rw [Try.underlying49] at z; exact z) u0 h0
  obtain ⟨x0_0, x0_1, rfl⟩ := list2 xs0 hn0
  clear hn0
  have u1 := (hval 1 49 v1 rfl rfl)
  have k1 := h1
  have lt1 : ∀ x ∈ p1, x.block < W.heap.size := by obtain ⟨m, hm⟩ := k1; exact DataW.trod_lt m _ _ _ hm
  obtain ⟨xs1, hn1, rfl, w1⟩ := open_agg Try.underlying49 (by kernel_rfl) (by kernel_rfl) (by have z := fields49; rw [Try.underlying49] at z; exact z) u1 h1
  obtain ⟨x1_0, x1_1, rfl⟩ := list2 xs1 hn1
  clear hn1
  clear hA0 hval0 hsz0 hsz
  obtain ⟨k, h⟩ := (⟨0, rfl⟩ : ∃ k : Nat, k = 0)
  refine (Sum_law x0_0 x0_1 x1_0 x1_1 W).mono fun e W' ⟨he, bel⟩ => ?_
  subst he
  exact ⟨_, rfl, _, _, _, [], _, [], hW', trodAll_mk1 (shut_bool Try.underlying4 _), (trodAll_cons_mk (Below.trod laidOut (by kernel_rfl) (of_decide_eq_true (by kernel_rfl)) k0 bel lt0) (trodAll_cons_mk (Below.trod laidOut (by kernel_rfl) (of_decide_eq_true (by kernel_rfl)) k1 bel lt1) trodAll_mk0)), rfl, bel.frame _, fun h => by cases h⟩
theorem over : Rows.ratioSumRow.holds Try.pinned (OpenSpec.ofChange Rows.ratioSumSpec) :=
  OpenClaim.holds_of_wide 10 Try.f10 rfl rfl rfl rfl rfl rfl rfl ⟨rfl, rfl, rfl, rfl, rfl⟩ rfl rfl rfl rfl rfl (by kernel_rfl) Try.func10 (by kernel_rfl)
    (of_decide_eq_true (by kernel_rfl)) (by unfold Func.isWrapper; first | (rw [if_pos (by decide +kernel)]; kernel_rfl) | (rw [if_neg (by decide +kernel)]; exact ⟨rfl, rfl⟩))
    (fun os started H enc _ => lifted os started H enc)
theorem proved : Rows.RatioSumSaid := over
end Go.Proofs.Ytkldfjlbgmppfaa.ratioSum
namespace Go.Proofs.Ytkldfjlbgmppfaa
/-- The row, under a short name, for the claim. -/
theorem ratioSum_holds : Rows.RatioSumSaid := ratioSum.proved
end Go.Proofs.Ytkldfjlbgmppfaa
