/- The row of the law LedgerPlays: its arguments opened, the contract of its function, and what the plain law says of it. No condition. -/
import Derived.Test.YtkldfjlbgmppfabRows
import Derived.Test.YtkldfjlbgmppfabOpen
import Derived.Test.YtkldfjlbgmppfabLPlays
import Derived.WalkKit
import Derived.ProofKit
import Derived.OpenShut
import Derived.ShutString
import Derived.ChangeOld
import Derived.Below
import Derived.SizedLaws
import Derived.Test.YtkldfjlbgmppfabWSized
namespace Go.Proofs.Ytkldfjlbgmppfab.ledgerPlays
open Go.ChangeShapes Go.WideShapes Go.ChangeAt Go.RowKit Go.Proofs.Ytkldfjlbgmppfab.Open Go.Proofs.Ytkldfjlbgmppfab.Ld Go.Proofs.YtkldfjlbgmppfabW.PrintWords
open Go.ChangeMaps (open_string shut_string)
set_option linter.unusedVariables false
theorem own : ownKnob Try.prog.godebug = none := by kernel_rfl
theorem laidOut : laidOutB Try.prog = true := by kernel_rfl
def IsRow (k : IntKind) (w : World) (a : Option Addr) (len cap : Nat) (zs : List Int) : Prop :=
  (a = none ∧ len = 0 ∧ cap = 0 ∧ zs = []) ∨
  ∃ x, a = some x ∧ len ≤ cap ∧ cap ≤ maxLen ∧ zs.length = cap ∧ (∀ i, i < zs.length → w.cell? (x.add i) = some (.int k (zs.getD i 0))) ∧ ∀ n ∈ zs, (Lit.int k n).wf = true
theorem fields37 : ∀ (j : Nat) (f : Field), (match Try.prog.underlying 37 with | some (.struct fs) => fs[j]? | _ => none) = some f → Try.prog.underlying f.type = some (.int .i64) := by
  intro j f h
  rw [Try.underlying37] at h
  match j, h with
  | 0, h => simp at h; subst h; exact Try.underlying3
  | 1, h => simp at h; subst h; exact Try.underlying3
  | 2, h => simp at h; subst h; exact Try.underlying3
  | _ + 3, h => simp at h
theorem rows37 {W : World} {a : Option Addr} {len cap : Nat} (h : (a = none ∧ len = 0 ∧ cap = 0) ∨ ∃ ad, a = some ad ∧ len ≤ cap ∧ cap ≤ maxLen ∧ ∀ i, i < len → ∀ j, j < 3 → ∃ x, W.cell? (ad.add (i * 3 + j)) = some (.int .i64 x) ∧ (Lit.int .i64 x).wf = true) :
    ∃ l : List S37, len = l.length ∧ Kd.C k37 W a l.length l ∧ l.length ≤ cap ∧ l.length ≤ maxLen ∧ ∀ p ∈ l, (Lit.int .i64 p.f0).wf = true ∧ (Lit.int .i64 p.f1).wf = true ∧ (Lit.int .i64 p.f2).wf = true := by
  rcases h with ⟨rfl, rfl, rfl⟩ | ⟨ad, rfl, hl, hm, hc⟩
  · exact ⟨[], rfl, ⟨rfl, by simp, fun h => by simp at h⟩, Nat.le_refl _, by simp, fun p hp => by simp at hp⟩
  · have hat : ∀ i, i < len → ∀ j, j < 3 → W.cell? (ad.add (i * 3 + j)) = some (.int .i64 (cellInt W (ad.add (i * 3 + j)))) ∧ (Lit.int .i64 (cellInt W (ad.add (i * 3 + j)))).wf = true := by
      intro i hi j hj
      obtain ⟨x, hx, hw⟩ := hc i hi j hj
      rw [cellInt_of hx]
      exact ⟨hx, hw⟩
    obtain ⟨l, hl2⟩ : ∃ l : List S37, l = (List.range len).map fun i => (⟨cellInt W (ad.add (i * 3 + 0)), cellInt W (ad.add (i * 3 + 1)), cellInt W (ad.add (i * 3 + 2))⟩ : S37) := ⟨_, rfl⟩
    have hlen : l.length = len := by rw [hl2]; simp
    have hget : ∀ j p, l[j]? = some p → j < len ∧ p = (⟨cellInt W (ad.add (j * 3 + 0)), cellInt W (ad.add (j * 3 + 1)), cellInt W (ad.add (j * 3 + 2))⟩ : S37) := by
      intro j p hj
      have hlt : j < l.length := (List.getElem?_eq_some_iff.1 hj).1
      rw [hl2, List.getElem?_map, List.getElem?_range (by omega)] at hj
      simp at hj
      exact ⟨by omega, hj.symm⟩
    refine ⟨l, hlen.symm, ?_, by omega, by omega, ?_⟩
    · refine ⟨rfl, by unfold maxLen at hm; omega, fun _ => ⟨ad, rfl, fun j p hj => ⟨[.int .i64 p.f0, .int .i64 p.f1, .int .i64 p.f2], rfl, k37_mk W p, fun i u hu => ?_⟩⟩⟩
      obtain ⟨hlt, rfl⟩ := hget j p hj
      show W.cell? (ad.add (j * 3 + i)) = some u
      match i, hu with
      | 0, hu => simp at hu; subst hu; exact (hat j hlt 0 (by omega)).1
      | 1, hu => simp at hu; subst hu; exact (hat j hlt 1 (by omega)).1
      | 2, hu => simp at hu; subst hu; exact (hat j hlt 2 (by omega)).1
      | _ + 3, hu => simp at hu
    · intro p hp
      obtain ⟨j, hj, rfl⟩ := List.getElem_of_mem hp
      obtain ⟨hlt, e⟩ := hget j _ (List.getElem?_eq_getElem hj)
      rw [e]
      exact ⟨(hat j hlt 0 (by omega)).2, (hat j hlt 1 (by omega)).2, (hat j hlt 2 (by omega)).2⟩
set_option maxRecDepth 100000 in
theorem lifted (os : Os) (started : os.Started) (H : Type) (enc : TypeId × Value → H) :
    ReturnsInHanded {} Try.checked os 4 .any (Rows.ledgerPlaysSpec.pre6 enc Try.prog Try.f4 Rows.ledgerPlaysRow.domain false) (Rows.ledgerPlaysSpec.post enc Try.prog Try.f4 false true false false) := by
  refine returnsInHanded_of_change_sized (C := Try.checked) own started (by kernel_rfl) Try.func4
    (ChangeSpec.witness6 (enc := enc) (C := Try.checked) false ⟨#[], #[.int .i64 0, .int .i64 0, .slice none 0 0], []⟩ 8 (by kernel_rfl) (by kernel_rfl) (by kernel_rfl) (by kernel_rfl)) ?_
  intro W base args ds gs before hval0 hW hcnd hsz0 _
  have hsz : (DataW.weightsEach Try.prog (Try.f4.params.toList ++ Rows.ledgerPlaysSpec.plain.varTypes Try.prog) (ds ++ gs)).all (· ≤ reachBytes) = true := hsz0
  have hval : ∀ (j : Nat) t v, Try.f4.params[j]? = some t → args[j]? = some v → Value.okWide Try.prog W .any base t v := hval0
  have hW' := hW
  obtain ⟨p, q, hA0, hV, rfl, hfz, hnd⟩ := hW
  have hA : DataW.TrodAll enc Try.prog W 0 (fun _ => true) true Try.f4.params.toList args.toList ds p := hA0
  rw [Try.params4] at hA hval hsz
  obtain ⟨v0, vs0, d0, ds0, p0, q0, hargs, rfl, rfl, h0, r0⟩ := trodAll_cons hA
  obtain ⟨v1, vs1, d1, ds1, p1, q1, rfl, rfl, rfl, h1, r1⟩ := trodAll_cons r0
  obtain ⟨v2, vs2, d2, ds2, p2, q2, rfl, rfl, rfl, h2, r2⟩ := trodAll_cons r1
  obtain ⟨rfl, rfl, rfl⟩ := trodAll_nil r2
  obtain rfl : args = #[v0, v1, v2] := by cases args; simp_all
  obtain ⟨rfl, rfl⟩ := trodVars_none hV
  obtain ⟨a0, rfl, rfl, rfl, w0⟩ := open_int Try.underlying3 (hval 0 3 v0 rfl rfl) h0
  obtain ⟨a1, rfl, rfl, rfl, w1⟩ := open_int Try.underlying3 (hval 1 3 v1 rfl rfl) h1
  obtain ⟨A2, len2, c2, rfl⟩ := okWide_slice Try.underlying29 (hval 2 29 v2 rfl rfl)
  have k2 := h2
  have lt2 : ∀ x ∈ p2, x.block < W.heap.size := by obtain ⟨m, hm⟩ := k2; exact DataW.trod_lt m _ _ _ hm
  obtain ⟨l2, rfl, hr2, hc2, hm2, w2⟩ := rows37 (open_structs Try.underlying29 Try.underlying37 (by kernel_rfl) (by kernel_rfl) (by have z := fields37; rw [Try.underlying37] at z; exact z) h2)
  clear hA0 hval0 hsz0 hsz
  obtain ⟨k, h⟩ := (⟨0, rfl⟩ : ∃ k : Nat, k = 0)
  refine (Plays_calls a0 a1 (i64_range w0).2 A2 l2 c2 W hr2).mono fun e W' ⟨he, bel⟩ => ?_
  subst he
  exact ⟨_, rfl, _, _, _, [], _, [], hW', trodAll_mk1 (shut_bool Try.underlying4 _), (trodAll_cons_mk (shut_int Try.underlying3 w0) (trodAll_cons_mk (shut_int Try.underlying3 w1) (trodAll_cons_mk (Below.trod laidOut (by kernel_rfl) (of_decide_eq_true (by kernel_rfl)) k2 bel lt2) trodAll_mk0))), rfl, bel.frame _, fun h => by cases h⟩
theorem over : Rows.ledgerPlaysRow.holds Try.pinned (OpenSpec.ofChange Rows.ledgerPlaysSpec) :=
  OpenClaim.holds_of_wide 4 Try.f4 rfl rfl rfl rfl rfl rfl rfl ⟨rfl, rfl, rfl, rfl, rfl⟩ rfl rfl rfl rfl rfl (by kernel_rfl) Try.func4 (by kernel_rfl)
    (of_decide_eq_true (by kernel_rfl)) (by unfold Func.isWrapper; first | (rw [if_pos (by decide +kernel)]; kernel_rfl) | (rw [if_neg (by decide +kernel)]; exact ⟨rfl, rfl⟩))
    (fun os started H enc _ => lifted os started H enc)
theorem proved : Rows.LedgerPlaysSaid := over
end Go.Proofs.Ytkldfjlbgmppfab.ledgerPlays
namespace Go.Proofs.Ytkldfjlbgmppfab
/-- The row, under a short name, for the claim. -/
theorem ledgerPlays_holds : Rows.LedgerPlaysSaid := ledgerPlays.proved
end Go.Proofs.Ytkldfjlbgmppfab
