/- The row of the law CheckFewer: its arguments opened, the contract of its function, and what the plain law says of it. No condition. -/
import Derived.Test.YtkldfjlbgmppfaaRows
import Derived.Test.YtkldfjlbgmppfaaOpen
import Derived.Test.YtkldfjlbgmppfaaMCheckFewerx2
import Derived.Test.YtkldfjlbgmppfaaMPureCheckFewer
import Derived.WalkKit
import Derived.ProofKit
import Derived.OpenShut
import Derived.ShutString
import Derived.ChangeOld
import Derived.Below
import Derived.SizedLaws
import Derived.Test.YtkldfjlbgmppfaaWSized
namespace Go.Proofs.Ytkldfjlbgmppfaa.checkFewer
open Go.ChangeShapes Go.WideShapes Go.ChangeAt Go.RowKit Go.Proofs.Ytkldfjlbgmppfaa.Open Go.Proofs.Ytkldfjlbgmppfaa.MCheckFewer Go.Proofs.YtkldfjlbgmppfaaW.PrintWords
open Go.ChangeMaps (open_string shut_string)
set_option linter.unusedVariables false
theorem own : ownKnob Try.prog.godebug = none := by kernel_rfl
theorem laidOut : laidOutB Try.prog = true := by kernel_rfl
def IsRow (k : IntKind) (w : World) (a : Option Addr) (len cap : Nat) (zs : List Int) : Prop :=
  (a = none ∧ len = 0 ∧ cap = 0 ∧ zs = []) ∨
  ∃ x, a = some x ∧ len ≤ cap ∧ cap ≤ maxLen ∧ zs.length = cap ∧ (∀ i, i < zs.length → w.cell? (x.add i) = some (.int k (zs.getD i 0))) ∧ ∀ n ∈ zs, (Lit.int k n).wf = true
theorem fields23 : ∀ (j : Nat) (f : Field), (match Try.prog.underlying 23 with | some (.struct fs) => fs[j]? | _ => none) = some f → Try.prog.underlying f.type = some (.int .i64) := by
  intro j f h
  rw [Try.underlying23] at h
  match j, h with
  | 0, h => simp at h; subst h; exact Try.underlying3
  | 1, h => simp at h; subst h; exact Try.underlying3
  | 2, h => simp at h; subst h; exact Try.underlying3
  | 3, h => simp at h; subst h; exact Try.underlying3
  | 4, h => simp at h; subst h; exact Try.underlying3
  | 5, h => simp at h; subst h; exact Try.underlying3
  | 6, h => simp at h; subst h; exact Try.underlying3
  | 7, h => simp at h; subst h; exact Try.underlying3
  | 8, h => simp at h; subst h; exact Try.underlying3
  | 9, h => simp at h; subst h; exact Try.underlying3
  | _ + 10, h => simp at h
theorem fields39 : ∀ (j : Nat) (f : Field), (match Try.prog.underlying 39 with | some (.struct fs) => fs[j]? | _ => none) = some f → Try.prog.underlying f.type = some (.int .i64) := by
  intro j f h
  rw [Try.underlying39] at h
  match j, h with
  | 0, h => simp at h; subst h; exact Try.underlying3
  | 1, h => simp at h; subst h; exact Try.underlying3
  | _ + 2, h => simp at h
theorem rows39 {W : World} {a : Option Addr} {len cap : Nat} (h : (a = none ∧ len = 0 ∧ cap = 0) ∨ ∃ ad, a = some ad ∧ len ≤ cap ∧ cap ≤ maxLen ∧ ∀ i, i < len → ∀ j, j < 2 → ∃ x, W.cell? (ad.add (i * 2 + j)) = some (.int .i64 x) ∧ (Lit.int .i64 x).wf = true) :
    ∃ l : List S39, len = l.length ∧ Kd.C k39 W a l.length l ∧ l.length ≤ cap ∧ l.length ≤ maxLen ∧ ∀ p ∈ l, (Lit.int .i64 p.f0).wf = true ∧ (Lit.int .i64 p.f1).wf = true := by
  rcases h with ⟨rfl, rfl, rfl⟩ | ⟨ad, rfl, hl, hm, hc⟩
  · exact ⟨[], rfl, ⟨rfl, by simp, fun h => by simp at h⟩, Nat.le_refl _, by simp, fun p hp => by simp at hp⟩
  · have hat : ∀ i, i < len → ∀ j, j < 2 → W.cell? (ad.add (i * 2 + j)) = some (.int .i64 (cellInt W (ad.add (i * 2 + j)))) ∧ (Lit.int .i64 (cellInt W (ad.add (i * 2 + j)))).wf = true := by
      intro i hi j hj
      obtain ⟨x, hx, hw⟩ := hc i hi j hj
      rw [cellInt_of hx]
      exact ⟨hx, hw⟩
    obtain ⟨l, hl2⟩ : ∃ l : List S39, l = (List.range len).map fun i => (⟨cellInt W (ad.add (i * 2 + 0)), cellInt W (ad.add (i * 2 + 1))⟩ : S39) := ⟨_, rfl⟩
    have hlen : l.length = len := by rw [hl2]; simp
    have hget : ∀ j p, l[j]? = some p → j < len ∧ p = (⟨cellInt W (ad.add (j * 2 + 0)), cellInt W (ad.add (j * 2 + 1))⟩ : S39) := by
      intro j p hj
      have hlt : j < l.length := (List.getElem?_eq_some_iff.1 hj).1
      rw [hl2, List.getElem?_map, List.getElem?_range (by omega)] at hj
      simp at hj
      exact ⟨by omega, hj.symm⟩
    refine ⟨l, hlen.symm, ?_, by omega, by omega, ?_⟩
    · refine ⟨rfl, by unfold maxLen at hm; omega, fun _ => ⟨ad, rfl, fun j p hj => ⟨[.int .i64 p.f0, .int .i64 p.f1], rfl, k39_mk W p, fun i u hu => ?_⟩⟩⟩
      obtain ⟨hlt, rfl⟩ := hget j p hj
      show W.cell? (ad.add (j * 2 + i)) = some u
      match i, hu with
      | 0, hu => simp at hu; subst hu; exact (hat j hlt 0 (by omega)).1
      | 1, hu => simp at hu; subst hu; exact (hat j hlt 1 (by omega)).1
      | _ + 2, hu => simp at hu
    · intro p hp
      obtain ⟨j, hj, rfl⟩ := List.getElem_of_mem hp
      obtain ⟨hlt, e⟩ := hget j _ (List.getElem?_eq_getElem hj)
      rw [e]
      exact ⟨(hat j hlt 0 (by omega)).2, (hat j hlt 1 (by omega)).2⟩
theorem fields30 : ∀ (j : Nat) (f : Field), (match Try.prog.underlying 30 with | some (.struct fs) => fs[j]? | _ => none) = some f → Try.prog.underlying f.type = some (.int .i64) := by
  intro j f h
  rw [Try.underlying30] at h
  match j, h with
  | 0, h => simp at h; subst h; exact Try.underlying3
  | 1, h => simp at h; subst h; exact Try.underlying3
  | 2, h => simp at h; subst h; exact Try.underlying3
  | 3, h => simp at h; subst h; exact Try.underlying3
  | 4, h => simp at h; subst h; exact Try.underlying3
  | _ + 5, h => simp at h
theorem rows30 {W : World} {a : Option Addr} {len cap : Nat} (h : (a = none ∧ len = 0 ∧ cap = 0) ∨ ∃ ad, a = some ad ∧ len ≤ cap ∧ cap ≤ maxLen ∧ ∀ i, i < len → ∀ j, j < 5 → ∃ x, W.cell? (ad.add (i * 5 + j)) = some (.int .i64 x) ∧ (Lit.int .i64 x).wf = true) :
    ∃ l : List S30, len = l.length ∧ Kd.C k30 W a l.length l ∧ l.length ≤ cap ∧ l.length ≤ maxLen ∧ ∀ p ∈ l, (Lit.int .i64 p.f0).wf = true ∧ (Lit.int .i64 p.f1).wf = true ∧ (Lit.int .i64 p.f2).wf = true ∧ (Lit.int .i64 p.f3).wf = true ∧ (Lit.int .i64 p.f4).wf = true := by
  rcases h with ⟨rfl, rfl, rfl⟩ | ⟨ad, rfl, hl, hm, hc⟩
  · exact ⟨[], rfl, ⟨rfl, by simp, fun h => by simp at h⟩, Nat.le_refl _, by simp, fun p hp => by simp at hp⟩
  · have hat : ∀ i, i < len → ∀ j, j < 5 → W.cell? (ad.add (i * 5 + j)) = some (.int .i64 (cellInt W (ad.add (i * 5 + j)))) ∧ (Lit.int .i64 (cellInt W (ad.add (i * 5 + j)))).wf = true := by
      intro i hi j hj
      obtain ⟨x, hx, hw⟩ := hc i hi j hj
      rw [cellInt_of hx]
      exact ⟨hx, hw⟩
    obtain ⟨l, hl2⟩ : ∃ l : List S30, l = (List.range len).map fun i => (⟨cellInt W (ad.add (i * 5 + 0)), cellInt W (ad.add (i * 5 + 1)), cellInt W (ad.add (i * 5 + 2)), cellInt W (ad.add (i * 5 + 3)), cellInt W (ad.add (i * 5 + 4))⟩ : S30) := ⟨_, rfl⟩
    have hlen : l.length = len := by rw [hl2]; simp
    have hget : ∀ j p, l[j]? = some p → j < len ∧ p = (⟨cellInt W (ad.add (j * 5 + 0)), cellInt W (ad.add (j * 5 + 1)), cellInt W (ad.add (j * 5 + 2)), cellInt W (ad.add (j * 5 + 3)), cellInt W (ad.add (j * 5 + 4))⟩ : S30) := by
      intro j p hj
      have hlt : j < l.length := (List.getElem?_eq_some_iff.1 hj).1
      rw [hl2, List.getElem?_map, List.getElem?_range (by omega)] at hj
      simp at hj
      exact ⟨by omega, hj.symm⟩
    refine ⟨l, hlen.symm, ?_, by omega, by omega, ?_⟩
    · refine ⟨rfl, by unfold maxLen at hm; omega, fun _ => ⟨ad, rfl, fun j p hj => ⟨[.int .i64 p.f0, .int .i64 p.f1, .int .i64 p.f2, .int .i64 p.f3, .int .i64 p.f4], rfl, k30_mk W p, fun i u hu => ?_⟩⟩⟩
      obtain ⟨hlt, rfl⟩ := hget j p hj
      show W.cell? (ad.add (j * 5 + i)) = some u
      match i, hu with
      | 0, hu => simp at hu; subst hu; exact (hat j hlt 0 (by omega)).1
      | 1, hu => simp at hu; subst hu; exact (hat j hlt 1 (by omega)).1
      | 2, hu => simp at hu; subst hu; exact (hat j hlt 2 (by omega)).1
      | 3, hu => simp at hu; subst hu; exact (hat j hlt 3 (by omega)).1
      | 4, hu => simp at hu; subst hu; exact (hat j hlt 4 (by omega)).1
      | _ + 5, hu => simp at hu
    · intro p hp
      obtain ⟨j, hj, rfl⟩ := List.getElem_of_mem hp
      obtain ⟨hlt, e⟩ := hget j _ (List.getElem?_eq_getElem hj)
      rw [e]
      exact ⟨(hat j hlt 0 (by omega)).2, (hat j hlt 1 (by omega)).2, (hat j hlt 2 (by omega)).2, (hat j hlt 3 (by omega)).2, (hat j hlt 4 (by omega)).2⟩
theorem list10 : ∀ (xs : List Int), xs.length = 10 → ∃ y0 y1 y2 y3 y4 y5 y6 y7 y8 y9, xs = [y0, y1, y2, y3, y4, y5, y6, y7, y8, y9]
  | [y0, y1, y2, y3, y4, y5, y6, y7, y8, y9], _ => ⟨_, _, _, _, _, _, _, _, _, _, rfl⟩
set_option maxRecDepth 100000 in
theorem lifted (os : Os) (started : os.Started) (H : Type) (enc : TypeId × Value → H) :
    ReturnsInHanded {} Try.checked os 6 .any (Rows.checkFewerSpec.pre6 enc Try.prog Try.f6 Rows.checkFewerRow.domain false) (Rows.checkFewerSpec.post enc Try.prog Try.f6 false true false false) := by
  refine returnsInHanded_of_change_sized (C := Try.checked) own started (by kernel_rfl) Try.func6
    (ChangeSpec.witness6 (enc := enc) (C := Try.checked) false ⟨#[], #[.agg #[.int .i64 0, .int .i64 0, .int .i64 0, .int .i64 0, .int .i64 0, .int .i64 0, .int .i64 0, .int .i64 0, .int .i64 0, .int .i64 0], .slice none 0 0, .int .i64 0, .slice none 0 0], []⟩ 8 (by kernel_rfl) (by kernel_rfl) (by kernel_rfl) (by kernel_rfl)) ?_
  intro W base args ds gs before hval0 hW hcnd hsz0 _
  have hsz : (DataW.weightsEach Try.prog (Try.f6.params.toList ++ Rows.checkFewerSpec.plain.varTypes Try.prog) (ds ++ gs)).all (· ≤ reachBytes) = true := hsz0
  have hval : ∀ (j : Nat) t v, Try.f6.params[j]? = some t → args[j]? = some v → Value.okWide Try.prog W .any base t v := hval0
  have hW' := hW
  obtain ⟨p, q, hA0, hV, rfl, hfz, hnd⟩ := hW
  have hA : DataW.TrodAll enc Try.prog W 0 (fun _ => true) true Try.f6.params.toList args.toList ds p := hA0
  rw [Try.params6] at hA hval hsz
  obtain ⟨v0, vs0, d0, ds0, p0, q0, hargs, rfl, rfl, h0, r0⟩ := trodAll_cons hA
  obtain ⟨v1, vs1, d1, ds1, p1, q1, rfl, rfl, rfl, h1, r1⟩ := trodAll_cons r0
  obtain ⟨v2, vs2, d2, ds2, p2, q2, rfl, rfl, rfl, h2, r2⟩ := trodAll_cons r1
  obtain ⟨v3, vs3, d3, ds3, p3, q3, rfl, rfl, rfl, h3, r3⟩ := trodAll_cons r2
  obtain ⟨rfl, rfl, rfl⟩ := trodAll_nil r3
  obtain rfl : args = #[v0, v1, v2, v3] := by cases args; simp_all
  obtain ⟨rfl, rfl⟩ := trodVars_none hV
  have u0 := (hval 0 23 v0 rfl rfl)
  have k0 := h0
  have lt0 : ∀ x ∈ p0, x.block < W.heap.size := by obtain ⟨m, hm⟩ := k0; exact DataW.trod_lt m _ _ _ hm
  obtain ⟨xs0, hn0, rfl, w0⟩ := open_agg Try.underlying23 (by kernel_rfl) (by kernel_rfl) (by have z := fields23; rw [Try.underlying23] at z; exact z) u0 h0
  obtain ⟨x0_0, x0_1, x0_2, x0_3, x0_4, x0_5, x0_6, x0_7, x0_8, x0_9, rfl⟩ := list10 xs0 hn0
  clear hn0
  obtain ⟨A1, len1, c1, rfl⟩ := okWide_slice Try.underlying24 (hval 1 24 v1 rfl rfl)
  have k1 := h1
  have lt1 : ∀ x ∈ p1, x.block < W.heap.size := by obtain ⟨m, hm⟩ := k1; exact DataW.trod_lt m _ _ _ hm
  obtain ⟨l1, rfl, hr1, hc1, hm1, w1⟩ := rows39 (open_structs Try.underlying24 Try.underlying39 (by kernel_rfl) (by kernel_rfl) (by have z := fields39; rw [Try.underlying39] at z; exact z) h1)
  obtain ⟨a2, rfl, rfl, rfl, w2⟩ := open_int Try.underlying3 (hval 2 3 v2 rfl rfl) h2
  obtain ⟨A3, len3, c3, rfl⟩ := okWide_slice Try.underlying31 (hval 3 31 v3 rfl rfl)
  have k3 := h3
  have lt3 : ∀ x ∈ p3, x.block < W.heap.size := by obtain ⟨m, hm⟩ := k3; exact DataW.trod_lt m _ _ _ hm
  obtain ⟨l3, rfl, hr3, hc3, hm3, w3⟩ := rows30 (open_structs Try.underlying31 Try.underlying30 (by kernel_rfl) (by kernel_rfl) (by have z := fields30; rw [Try.underlying30] at z; exact z) h3)
  clear hA0 hval0 hsz0 hsz
  obtain ⟨k, h⟩ := Pure.CheckFewer x0_0 x0_1 x0_2 x0_3 x0_4 x0_5 x0_6 x0_7 x0_8 x0_9 l1 a2 l3 (by unfold maxLen at hm1; omega)
  refine (millwrightlaw04_CheckFewer.calls k x0_0 x0_1 x0_2 x0_3 x0_4 x0_5 x0_6 x0_7 x0_8 x0_9 A1 c1 l1 a2 A3 c3 l3 W hr1 hc1 hr3 hc3 h).mono fun e W' ⟨he, bel⟩ => ?_
  subst he
  exact ⟨_, rfl, _, _, _, [], _, [], hW', trodAll_mk1 (shut_bool Try.underlying4 _), (trodAll_cons_mk (Below.trod laidOut (by kernel_rfl) (of_decide_eq_true (by kernel_rfl)) k0 bel lt0) (trodAll_cons_mk (Below.trod laidOut (by kernel_rfl) (of_decide_eq_true (by kernel_rfl)) k1 bel lt1) (trodAll_cons_mk (shut_int Try.underlying3 w2) (trodAll_cons_mk (Below.trod laidOut (by kernel_rfl) (of_decide_eq_true (by kernel_rfl)) k3 bel lt3) trodAll_mk0)))), rfl, bel.frame _, fun h => by cases h⟩
theorem over : Rows.checkFewerRow.holds Try.pinned (OpenSpec.ofChange Rows.checkFewerSpec) :=
  OpenClaim.holds_of_wide 6 Try.f6 rfl rfl rfl rfl rfl rfl rfl ⟨rfl, rfl, rfl, rfl, rfl⟩ rfl rfl rfl rfl rfl (by kernel_rfl) Try.func6 (by kernel_rfl)
    (of_decide_eq_true (by kernel_rfl)) (by unfold Func.isWrapper; first | (rw [if_pos (by decide +kernel)]; kernel_rfl) | (rw [if_neg (by decide +kernel)]; exact ⟨rfl, rfl⟩))
    (fun os started H enc _ => lifted os started H enc)
theorem proved : Rows.CheckFewerSaid := over
end Go.Proofs.Ytkldfjlbgmppfaa.checkFewer
namespace Go.Proofs.Ytkldfjlbgmppfaa
/-- The row, under a short name, for the claim. -/
theorem checkFewer_holds : Rows.CheckFewerSaid := checkFewer.proved
end Go.Proofs.Ytkldfjlbgmppfaa
