/- The row of the law CheckTells: its arguments opened, the contract of its function, and what the plain law says of it. No condition. -/
import Derived.Test.YtkldfjlbgmppfaaRows
import Derived.Test.YtkldfjlbgmppfaaOpen
import Derived.Test.YtkldfjlbgmppfaaMCheckTellsx3
import Derived.Test.YtkldfjlbgmppfaaMPureCheckTells
import Derived.WalkKit
import Derived.ProofKit
import Derived.OpenShut
import Derived.ShutString
import Derived.ChangeOld
import Derived.Below
import Derived.SizedLaws
import Derived.Test.YtkldfjlbgmppfaaWSized
namespace Go.Proofs.Ytkldfjlbgmppfaa.checkTells
open Go.ChangeShapes Go.WideShapes Go.ChangeAt Go.RowKit Go.Proofs.Ytkldfjlbgmppfaa.Open Go.Proofs.Ytkldfjlbgmppfaa.MCheckTells Go.Proofs.YtkldfjlbgmppfaaW.PrintWords
open Go.ChangeMaps (open_string shut_string)
set_option linter.unusedVariables false
theorem own : ownKnob Try.prog.godebug = none := by kernel_rfl
theorem laidOut : laidOutB Try.prog = true := by kernel_rfl
def IsRow (k : IntKind) (w : World) (a : Option Addr) (len cap : Nat) (zs : List Int) : Prop :=
  (a = none ∧ len = 0 ∧ cap = 0 ∧ zs = []) ∨
  ∃ x, a = some x ∧ len ≤ cap ∧ cap ≤ maxLen ∧ zs.length = cap ∧ (∀ i, i < zs.length → w.cell? (x.add i) = some (.int k (zs.getD i 0))) ∧ ∀ n ∈ zs, (Lit.int k n).wf = true
theorem fields23 : ∀ (j : Nat) (f : Field), (match Try.prog.underlying 23 with | some (.struct fs) => fs[j]? | _ => none) = some f → Try.prog.underlying f.type = some (.int .i64) := by
  intro j f h
  rw [Try.underlying23] at h
  match j, h with
  | 0, h => simp at h; subst h; exact Try.underlying3
  | 1, h => simp at h; subst h; exact Try.underlying3
  | 2, h => simp at h; subst h; exact Try.underlying3
  | 3, h => simp at h; subst h; exact Try.underlying3
  | 4, h => simp at h; subst h; exact Try.underlying3
  | 5, h => simp at h; subst h; exact Try.underlying3
  | 6, h => simp at h; subst h; exact Try.underlying3
  | 7, h => simp at h; subst h; exact Try.underlying3
  | 8, h => simp at h; subst h; exact Try.underlying3
  | 9, h => simp at h; subst h; exact Try.underlying3
  | _ + 10, h => simp at h
theorem fields39 : ∀ (j : Nat) (f : Field), (match Try.prog.underlying 39 with | some (.struct fs) => fs[j]? | _ => none) = some f → Try.prog.underlying f.type = some (.int .i64) := by
  intro j f h
  rw [Try.underlying39] at h
  match j, h with
  | 0, h => simp at h; subst h; exact Try.underlying3
  | 1, h => simp at h; subst h; exact Try.underlying3
  | _ + 2, h => simp at h
theorem rows39 {W : World} {a : Option Addr} {len cap : Nat} (h : (a = none ∧ len = 0 ∧ cap = 0) ∨ ∃ ad, a = some ad ∧ len ≤ cap ∧ cap ≤ maxLen ∧ ∀ i, i < len → ∀ j, j < 2 → ∃ x, W.cell? (ad.add (i * 2 + j)) = some (.int .i64 x) ∧ (Lit.int .i64 x).wf = true) :
    ∃ l : List S39, len = l.length ∧ Kd.C k39 W a l.length l ∧ l.length ≤ cap ∧ l.length ≤ maxLen ∧ ∀ p ∈ l, (Lit.int .i64 p.f0).wf = true ∧ (Lit.int .i64 p.f1).wf = true := by
  rcases h with ⟨rfl, rfl, rfl⟩ | ⟨ad, rfl, hl, hm, hc⟩
  · exact ⟨[], rfl, ⟨rfl, by simp, fun h => by simp at h⟩, Nat.le_refl _, by simp, fun p hp => by simp at hp⟩
  · have hat : ∀ i, i < len → ∀ j, j < 2 → W.cell? (ad.add (i * 2 + j)) = some (.int .i64 (cellInt W (ad.add (i * 2 + j)))) ∧ (Lit.int .i64 (cellInt W (ad.add (i * 2 + j)))).wf = true := by
      intro i hi j hj
      obtain ⟨x, hx, hw⟩ := hc i hi j hj
      rw [cellInt_of hx]
      exact ⟨hx, hw⟩
    obtain ⟨l, hl2⟩ : ∃ l : List S39, l = (List.range len).map fun i => (⟨cellInt W (ad.add (i * 2 + 0)), cellInt W (ad.add (i * 2 + 1))⟩ : S39) := ⟨_, rfl⟩
    have hlen : l.length = len := by rw [hl2]; simp
    have hget : ∀ j p, l[j]? = some p → j < len ∧ p = (⟨cellInt W (ad.add (j * 2 + 0)), cellInt W (ad.add (j * 2 + 1))⟩ : S39) := by
      intro j p hj
      have hlt : j < l.length := (List.getElem?_eq_some_iff.1 hj).1
      rw [hl2, List.getElem?_map, List.getElem?_range (by omega)] at hj
      simp at hj
      exact ⟨by omega, hj.symm⟩
    refine ⟨l, hlen.symm, ?_, by omega, by omega, ?_⟩
    · refine ⟨rfl, by unfold maxLen at hm; omega, fun _ => ⟨ad, rfl, fun j p hj => ⟨[.int .i64 p.f0, .int .i64 p.f1], rfl, k39_mk W p, fun i u hu => ?_⟩⟩⟩
      obtain ⟨hlt, rfl⟩ := hget j p hj
      show W.cell? (ad.add (j * 2 + i)) = some u
      match i, hu with
      | 0, hu => simp at hu; subst hu; exact (hat j hlt 0 (by omega)).1
      | 1, hu => simp at hu; subst hu; exact (hat j hlt 1 (by omega)).1
      | _ + 2, hu => simp at hu
    · intro p hp
      obtain ⟨j, hj, rfl⟩ := List.getElem_of_mem hp
      obtain ⟨hlt, e⟩ := hget j _ (List.getElem?_eq_getElem hj)
      rw [e]
      exact ⟨(hat j hlt 0 (by omega)).2, (hat j hlt 1 (by omega)).2⟩
theorem list10 : ∀ (xs : List Int), xs.length = 10 → ∃ y0 y1 y2 y3 y4 y5 y6 y7 y8 y9, xs = [y0, y1, y2, y3, y4, y5, y6, y7, y8, y9]
  | [y0, y1, y2, y3, y4, y5, y6, y7, y8, y9], _ => ⟨_, _, _, _, _, _, _, _, _, _, rfl⟩
set_option maxRecDepth 100000 in
theorem lifted (os : Os) (started : os.Started) (H : Type) (enc : TypeId × Value → H) :
    ReturnsInHanded {} Try.checked os 3 .any (Rows.checkTellsSpec.pre6 enc Try.prog Try.f3 Rows.checkTellsRow.domain false) (Rows.checkTellsSpec.post enc Try.prog Try.f3 false true false false) := by
  refine returnsInHanded_of_change_sized (C := Try.checked) own started (by kernel_rfl) Try.func3
    (ChangeSpec.witness6 (enc := enc) (C := Try.checked) false ⟨#[], #[.agg #[.int .i64 0, .int .i64 0, .int .i64 0, .int .i64 0, .int .i64 0, .int .i64 0, .int .i64 0, .int .i64 0, .int .i64 0, .int .i64 0], .slice none 0 0], []⟩ 8 (by kernel_rfl) (by kernel_rfl) (by kernel_rfl) (by kernel_rfl)) ?_
  intro W base args ds gs before hval0 hW hcnd hsz0 _
  have hsz : (DataW.weightsEach Try.prog (Try.f3.params.toList ++ Rows.checkTellsSpec.plain.varTypes Try.prog) (ds ++ gs)).all (· ≤ reachBytes) = true := hsz0
  have hval : ∀ (j : Nat) t v, Try.f3.params[j]? = some t → args[j]? = some v → Value.okWide Try.prog W .any base t v := hval0
  have hW' := hW
  obtain ⟨p, q, hA0, hV, rfl, hfz, hnd⟩ := hW
  have hA : DataW.TrodAll enc Try.prog W 0 (fun _ => true) true Try.f3.params.toList args.toList ds p := hA0
  rw [Try.params3] at hA hval hsz
  obtain ⟨v0, vs0, d0, ds0, p0, q0, hargs, rfl, rfl, h0, r0⟩ := trodAll_cons hA
  obtain ⟨v1, vs1, d1, ds1, p1, q1, rfl, rfl, rfl, h1, r1⟩ := trodAll_cons r0
  obtain ⟨rfl, rfl, rfl⟩ := trodAll_nil r1
  obtain rfl : args = #[v0, v1] := by cases args; simp_all
  obtain ⟨rfl, rfl⟩ := trodVars_none hV
  have u0 := (hval 0 23 v0 rfl rfl)
  have k0 := h0
  have lt0 : ∀ x ∈ p0, x.block < W.heap.size := by obtain ⟨m, hm⟩ := k0; exact DataW.trod_lt m _ _ _ hm
  obtain ⟨xs0, hn0, rfl, w0⟩ := open_agg Try.underlying23 (by kernel_rfl) (by kernel_rfl) (by have z := fields23; rw [Try.underlying23] at z; exact z) u0 h0
  obtain ⟨x0_0, x0_1, x0_2, x0_3, x0_4, x0_5, x0_6, x0_7, x0_8, x0_9, rfl⟩ := list10 xs0 hn0
  clear hn0
  obtain ⟨A1, len1, c1, rfl⟩ := okWide_slice Try.underlying24 (hval 1 24 v1 rfl rfl)
  have k1 := h1
  have lt1 : ∀ x ∈ p1, x.block < W.heap.size := by obtain ⟨m, hm⟩ := k1; exact DataW.trod_lt m _ _ _ hm
  obtain ⟨l1, rfl, hr1, hc1, hm1, w1⟩ := rows39 (open_structs Try.underlying24 Try.underlying39 (by kernel_rfl) (by kernel_rfl) (by have z := fields39; rw [Try.underlying39] at z; exact z) h1)
  clear hA0 hval0 hsz0 hsz
  obtain ⟨k, h⟩ := Pure.CheckTells x0_0 x0_1 x0_2 x0_3 x0_4 x0_5 x0_6 x0_7 x0_8 x0_9 l1
  refine (millwrightlaw04_CheckTells.calls k x0_0 x0_1 x0_2 x0_3 x0_4 x0_5 x0_6 x0_7 x0_8 x0_9 A1 c1 l1 W hr1 hc1 h).mono fun e W' ⟨he, bel⟩ => ?_
  subst he
  exact ⟨_, rfl, _, _, _, [], _, [], hW', trodAll_mk1 (shut_bool Try.underlying4 _), (trodAll_cons_mk (Below.trod laidOut (by kernel_rfl) (of_decide_eq_true (by kernel_rfl)) k0 bel lt0) (trodAll_cons_mk (Below.trod laidOut (by kernel_rfl) (of_decide_eq_true (by kernel_rfl)) k1 bel lt1) trodAll_mk0)), rfl, bel.frame _, fun h => by cases h⟩
theorem over : Rows.checkTellsRow.holds Try.pinned (OpenSpec.ofChange Rows.checkTellsSpec) :=
  OpenClaim.holds_of_wide 3 Try.f3 rfl rfl rfl rfl rfl rfl rfl ⟨rfl, rfl, rfl, rfl, rfl⟩ rfl rfl rfl rfl rfl (by kernel_rfl) Try.func3 (by kernel_rfl)
    (of_decide_eq_true (by kernel_rfl)) (by unfold Func.isWrapper; first | (rw [if_pos (by decide +kernel)]; kernel_rfl) | (rw [if_neg (by decide +kernel)]; exact ⟨rfl, rfl⟩))
    (fun os started H enc _ => lifted os started H enc)
theorem proved : Rows.CheckTellsSaid := over
end Go.Proofs.Ytkldfjlbgmppfaa.checkTells
namespace Go.Proofs.Ytkldfjlbgmppfaa
/-- The row, under a short name, for the claim. -/
theorem checkTells_holds : Rows.CheckTellsSaid := checkTells.proved
end Go.Proofs.Ytkldfjlbgmppfaa
