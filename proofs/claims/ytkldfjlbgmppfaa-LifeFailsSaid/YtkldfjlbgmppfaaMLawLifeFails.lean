/- The row of the law LifeFails: its arguments opened, the contract of its function, and what the plain law says of it. No condition. -/
import Derived.Test.YtkldfjlbgmppfaaRows
import Derived.Test.YtkldfjlbgmppfaaOpen
import Derived.Test.YtkldfjlbgmppfaaMLifeFailsx3
import Derived.Test.YtkldfjlbgmppfaaMPureLifeFails
import Derived.WalkKit
import Derived.ProofKit
import Derived.OpenShut
import Derived.ShutString
import Derived.ChangeOld
import Derived.Below
import Derived.SizedLaws
import Derived.Test.YtkldfjlbgmppfaaWSized
namespace Go.Proofs.Ytkldfjlbgmppfaa.lifeFails
open Go.ChangeShapes Go.WideShapes Go.ChangeAt Go.RowKit Go.Proofs.Ytkldfjlbgmppfaa.Open Go.Proofs.Ytkldfjlbgmppfaa.MLifeFails Go.Proofs.YtkldfjlbgmppfaaW.PrintWords
open Go.ChangeMaps (open_string shut_string)
set_option linter.unusedVariables false
theorem own : ownKnob Try.prog.godebug = none := by kernel_rfl
theorem laidOut : laidOutB Try.prog = true := by kernel_rfl
def IsRow (k : IntKind) (w : World) (a : Option Addr) (len cap : Nat) (zs : List Int) : Prop :=
  (a = none ∧ len = 0 ∧ cap = 0 ∧ zs = []) ∨
  ∃ x, a = some x ∧ len ≤ cap ∧ cap ≤ maxLen ∧ zs.length = cap ∧ (∀ i, i < zs.length → w.cell? (x.add i) = some (.int k (zs.getD i 0))) ∧ ∀ n ∈ zs, (Lit.int k n).wf = true
theorem rowsBool {W : World} {a : Option Addr} {len cap : Nat} (h : (a = none ∧ len = 0 ∧ cap = 0) ∨ ∃ ad, a = some ad ∧ len ≤ cap ∧ cap ≤ maxLen ∧ ∀ i, i < len → ∃ b, W.cell? (ad.add i) = some (.bool b)) :
    ∃ l : List Bool, len = l.length ∧ Kd.C Kd.bool W a l.length l ∧ l.length ≤ cap ∧ l.length ≤ maxLen := by
  rcases h with ⟨rfl, rfl, rfl⟩ | ⟨ad, rfl, hl, hm, hc⟩
  · exact ⟨[], rfl, ⟨rfl, by simp, fun h => by simp at h⟩, Nat.le_refl _, by simp⟩
  · obtain ⟨l, hl2⟩ : ∃ l : List Bool, l = (List.range len).map fun i => cellBool W (ad.add i) := ⟨_, rfl⟩
    have hlen : l.length = len := by rw [hl2]; simp
    refine ⟨l, hlen.symm, ?_, by omega, by omega⟩
    refine ⟨rfl, by unfold maxLen at hm; omega, fun _ => ⟨ad, rfl, fun j p hj => ⟨[.bool p], rfl, rfl, fun i u hu => ?_⟩⟩⟩
    have hlt : j < l.length := (List.getElem?_eq_some_iff.1 hj).1
    rw [hl2, List.getElem?_map, List.getElem?_range (by omega)] at hj
    simp at hj
    obtain ⟨b, hb⟩ := hc j (by omega)
    rw [cellBool_of hb] at hj
    show W.cell? (ad.add (j * 1 + i)) = some u
    match i, hu with
    | 0, hu => simp at hu; subst hu; subst hj; simpa using hb
    | _ + 1, hu => simp at hu
set_option maxRecDepth 100000 in
theorem lifted (os : Os) (started : os.Started) (H : Type) (enc : TypeId × Value → H) :
    ReturnsInHanded {} Try.checked os 12 .any (Rows.lifeFailsSpec.pre6 enc Try.prog Try.f12 Rows.lifeFailsRow.domain false) (Rows.lifeFailsSpec.post enc Try.prog Try.f12 false true false false) := by
  refine returnsInHanded_of_change_sized (C := Try.checked) own started (by kernel_rfl) Try.func12
    (ChangeSpec.witness6 (enc := enc) (C := Try.checked) false ⟨#[], #[.int .i64 0, .slice none 0 0], []⟩ 8 (by kernel_rfl) (by kernel_rfl) (by kernel_rfl) (by kernel_rfl)) ?_
  intro W base args ds gs before hval0 hW hcnd hsz0 _
  have hsz : (DataW.weightsEach Try.prog (Try.f12.params.toList ++ Rows.lifeFailsSpec.plain.varTypes Try.prog) (ds ++ gs)).all (· ≤ reachBytes) = true := hsz0
  have hval : ∀ (j : Nat) t v, Try.f12.params[j]? = some t → args[j]? = some v → Value.okWide Try.prog W .any base t v := hval0
  have hW' := hW
  obtain ⟨p, q, hA0, hV, rfl, hfz, hnd⟩ := hW
  have hA : DataW.TrodAll enc Try.prog W 0 (fun _ => true) true Try.f12.params.toList args.toList ds p := hA0
  rw [Try.params12] at hA hval hsz
  obtain ⟨v0, vs0, d0, ds0, p0, q0, hargs, rfl, rfl, h0, r0⟩ := trodAll_cons hA
  obtain ⟨v1, vs1, d1, ds1, p1, q1, rfl, rfl, rfl, h1, r1⟩ := trodAll_cons r0
  obtain ⟨rfl, rfl, rfl⟩ := trodAll_nil r1
  obtain rfl : args = #[v0, v1] := by cases args; simp_all
  obtain ⟨rfl, rfl⟩ := trodVars_none hV
  obtain ⟨a0, rfl, rfl, rfl, w0⟩ := open_int Try.underlying3 (hval 0 3 v0 rfl rfl) h0
  obtain ⟨A1, len1, c1, rfl⟩ := okWide_slice Try.underlying63 (hval 1 63 v1 rfl rfl)
  have k1 := h1
  have lt1 : ∀ x ∈ p1, x.block < W.heap.size := by obtain ⟨m, hm⟩ := k1; exact DataW.trod_lt m _ _ _ hm
  obtain ⟨l1, rfl, hr1, hc1, hm1⟩ := rowsBool (open_bools0 Try.underlying63 Try.underlying4 (by kernel_rfl) h1)
  clear hA0 hval0 hsz0 hsz
  obtain ⟨k, h⟩ := Pure.LifeFails a0 l1
  refine (millwrightlaw09_LifeFails.calls k a0 A1 c1 l1 W hr1 hc1 h).mono fun e W' ⟨he, bel⟩ => ?_
  subst he
  exact ⟨_, rfl, _, _, _, [], _, [], hW', trodAll_mk1 (shut_bool Try.underlying4 _), (trodAll_cons_mk (shut_int Try.underlying3 w0) (trodAll_cons_mk (Below.trod laidOut (by kernel_rfl) (of_decide_eq_true (by kernel_rfl)) k1 bel lt1) trodAll_mk0)), rfl, bel.frame _, fun h => by cases h⟩
theorem over : Rows.lifeFailsRow.holds Try.pinned (OpenSpec.ofChange Rows.lifeFailsSpec) :=
  OpenClaim.holds_of_wide 12 Try.f12 rfl rfl rfl rfl rfl rfl rfl ⟨rfl, rfl, rfl, rfl, rfl⟩ rfl rfl rfl rfl rfl (by kernel_rfl) Try.func12 (by kernel_rfl)
    (of_decide_eq_true (by kernel_rfl)) (by unfold Func.isWrapper; first | (rw [if_pos (by decide +kernel)]; kernel_rfl) | (rw [if_neg (by decide +kernel)]; exact ⟨rfl, rfl⟩))
    (fun os started H enc _ => lifted os started H enc)
theorem proved : Rows.LifeFailsSaid := over
end Go.Proofs.Ytkldfjlbgmppfaa.lifeFails
namespace Go.Proofs.Ytkldfjlbgmppfaa
/-- The row, under a short name, for the claim. -/
theorem lifeFails_holds : Rows.LifeFailsSaid := lifeFails.proved
end Go.Proofs.Ytkldfjlbgmppfaa
