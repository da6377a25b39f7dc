/- The engine of the yard and what it leans on, part 35. -/
import Derived.Test.YtbpoapfkeinjnaaGreatDoorK34
namespace Go.Proofs.YtbpoapfkeinjnaaGreatDoor.Ld
open Go.RowKit Go.Proofs.YtbpoapfkeinjnaaGreatDoorW.PrintWords Go.Proofs.YtbpoapfkeinjnaaGreatDoorW.PrintLast Go.Proofs.YtbpoapfkeinjnaaGreatDoorW.PrintMore
set_option linter.unusedVariables false
set_option linter.unusedSimpArgs false
def Bef (l : List Ev) (d t : Int) : Prop := ∃ (i j : Nat) (y x : Ev), i < j ∧ l[i]? = some y ∧ l[j]? = some x ∧ y.kind = 2 ∧ y.task = d ∧ x.kind = 1 ∧ x.task = t
def Did (l : List Ev) (t : Int) : Prop := ∃ (i : Nat) (y : Ev), l[i]? = some y ∧ y.kind = 2 ∧ y.task = t
theorem get_more {α : Type} {l m : List α} {i : Nat} {y : α} (h : l[i]? = some y) : (l ++ m)[i]? = some y := by
  have hi : i < l.length := (List.getElem?_eq_some_iff.1 h).1
  rw [List.getElem?_append_left hi]; exact h
theorem Bef.more {l m : List Ev} {d t : Int} (h : Bef l d t) : Bef (l ++ m) d t := by
  obtain ⟨i, j, y, x, h1, h2, h3, h4⟩ := h
  exact ⟨i, j, y, x, h1, get_more h2, get_more h3, h4⟩
theorem Did.more {l m : List Ev} {t : Int} (h : Did l t) : Did (l ++ m) t := by
  obtain ⟨i, y, h1, h2⟩ := h
  exact ⟨i, y, get_more h1, h2⟩
structure Wtt (e : Eng) (X : Nat → Prop) : Prop where
  a : ∀ t, t < e.N → ¬ X t → ∀ d : Nat, (d : Int) ∈ e.gr.L false t →
    (((e.life t).state = 1 ∨ (e.life t).state = 2 ∨ (e.life t).state = 4 ∨ (e.life t).state = 5) → (e.life d).state = 5) ∧
    ((e.life t).state = 3 → e.waits t = (d : Int) ∨ (e.life d).state = 5) ∧ (e.life t).state ≠ 0 ∧
    (((e.life t).state = 2 ∨ (e.life t).state = 5) → Bef e.log (d : Int) (t : Int))
  b : ∀ t, t < e.N → (e.life t).state = 5 → Did e.log (t : Int)
def Tr (e e' : Eng) (t : Nat) : Prop :=
  ((e'.life t).state = (e.life t).state ∧ ((e.life t).state = 3 → e'.waits t = e.waits t)) ∨
  ((e.life t).state ≠ 5 ∧ 6 ≤ (e'.life t).state) ∨
  ((e'.life t).state = 1 ∧ ((e.life t).state = 0 ∨ (e.life t).state = 2 ∨ (e.life t).state = 4 ∨ ((e.life t).state = 3 ∧ ∃ d : Nat, e.waits t = (d : Int) ∧ (e.life d).state = 5))) ∨
  ((e'.life t).state = 4 ∧ (e.life t).state = 2) ∨
  ((e'.life t).state = 2 ∧ (e.life t).state = 1 ∧ ∃ (k : Nat) (x : Ev), e.log.length ≤ k ∧ e'.log[k]? = some x ∧ x.kind = 1 ∧ x.task = (t : Int)) ∨
  ((e'.life t).state = 5 ∧ (e.life t).state = 2 ∧ Did e'.log (t : Int))
structure Stp (e e' : Eng) : Prop where
  N : e'.N = e.N
  gr : e'.gr = e.gr
  log : ∃ l, e'.log = e.log ++ l
  t : ∀ t, Tr e e' t
theorem Tr.same {e e' : Eng} {t : Nat} (h1 : e'.life t = e.life t) (h2 : e'.waits t = e.waits t) : Tr e e' t := .inl ⟨by rw [h1], fun _ => h2⟩
theorem Stp.done {e e' : Eng} (h : Stp e e') {d : Nat} (hd : (e.life d).state = 5) : (e'.life d).state = 5 := by
  rcases h.t d with h | h | h | h | h | h <;> omega
theorem Wtt.step {e e' : Eng} {X : Nat → Prop} (hw : Wtt e X) (s : Stp e e') (hg : GrInv e.gr) (hN : e.gr.N = e.N) : Wtt e' X := by
  obtain ⟨l, hl⟩ := s.log
  refine ⟨fun t ht hx d hd => ?_, fun t ht h5 => ?_⟩
  · rw [s.N] at ht
    rw [s.gr] at hd
    obtain ⟨a1, a2, a3, a4⟩ := hw.a t ht hx d hd
    obtain ⟨y, hy, hyN⟩ := hg.mem false t (by rw [hN]; exact ht) _ hd
    obtain rfl : y = d := by omega
    rw [hN] at hyN
    rw [hl]
    rcases s.t t with ⟨k1, k2⟩ | ⟨k1, k2⟩ | ⟨k1, k2⟩ | ⟨k1, k2⟩ | ⟨k1, k2, k3⟩ | ⟨k1, k2, k3⟩
    · rw [k1]
      refine ⟨fun h => s.done (a1 h), fun h => ?_, a3, fun h => (a4 h).more⟩
      rcases a2 h with h3 | h3
      · exact .inl ((k2 h).trans h3)
      · exact .inr (s.done h3)
    · exact ⟨fun h => by omega, fun h => by omega, by omega, fun h => by omega⟩
    · refine ⟨fun _ => s.done ?_, fun h => by omega, by omega, fun h => by omega⟩
      rcases k2 with k2 | k2 | k2 | ⟨k2, z, k3, k4⟩
      · exact absurd k2 a3
      · exact a1 (by omega)
      · exact a1 (by omega)
      · rcases a2 k2 with h3 | h3
        · have : z = y := by omega
          rw [← this]; exact k4
        · exact h3
    · exact ⟨fun h => s.done (a1 (by omega)), fun h => by omega, by omega, fun h => by omega⟩
    · refine ⟨fun h => s.done (a1 (by omega)), fun h => by omega, by omega, fun h => ?_⟩
      obtain ⟨k, x, q1, q2, q3, q4⟩ := k3
      obtain ⟨i, z, r1, r2, r3⟩ := hw.b y hyN (a1 (by omega))
      rw [← hl]
      refine ⟨i, k, z, x, ?_, ?_, q2, r2, r3, q3, q4⟩
      · have := (List.getElem?_eq_some_iff.1 r1).1; omega
      · rw [hl]; exact get_more r1
    · exact ⟨fun h => s.done (a1 (by omega)), fun h => by omega, by omega, fun h => (a4 (by omega)).more⟩
  · rw [s.N] at ht
    rcases s.t t with ⟨k1, k2⟩ | ⟨k1, k2⟩ | ⟨k1, k2⟩ | ⟨k1, k2⟩ | ⟨k1, k2, k3⟩ | ⟨k1, k2, k3⟩
    · rw [hl]; exact (hw.b t ht (by omega)).more
    all_goals first | omega | exact k3
theorem Stp.refl (e : Eng) : Stp e e := ⟨rfl, rfl, ⟨[], by simp⟩, fun t => Tr.same rfl rfl⟩
theorem Stp.quiet {e e' : Eng} (h1 : e'.N = e.N) (h2 : e'.gr = e.gr) (h3 : ∃ l, e'.log = e.log ++ l) (h4 : e'.life = e.life) (h5 : e'.waits = e.waits) : Stp e e' := ⟨h1, h2, h3, fun t => Tr.same (by rw [h4]) (by rw [h5])⟩
theorem Stp.one {e e' : Eng} (u : Nat) (h1 : e'.N = e.N) (h2 : e'.gr = e.gr) (h3 : ∃ l, e'.log = e.log ++ l) (h4 : ∀ k, k ≠ u → e'.life k = e.life k ∧ e'.waits k = e.waits k) (h5 : Tr e e' u) : Stp e e' := ⟨h1, h2, h3, fun t => by
  by_cases h : t = u
  · rw [h]; exact h5
  · exact Tr.same (h4 t h).1 (h4 t h).2⟩
theorem no_more {e e' : Eng} (h : e'.log = e.log) : ∃ l, e'.log = e.log ++ l := ⟨[], by rw [h]; simp⟩
theorem stepSt_cases (l : LifeS) (a nx : Int) : (l.state = a ∧ (stepSt l a nx).state = nx) ∨ (l.state ≠ a ∧ stepSt l a nx = l) := by
  unfold stepSt
  by_cases h : l.state = a
  · exact .inl ⟨h, by rw [if_pos h]⟩
  · exact .inr ⟨h, if_neg h⟩
theorem Stp.life {e e' : Eng} (u : Nat) (l : LifeS) (h1 : e'.N = e.N) (h2 : e'.gr = e.gr) (h3 : ∃ l, e'.log = e.log ++ l) (h4 : e'.life = upf e.life u l) (h6 : e'.waits = e.waits)
    (h5 : l.state = (e.life u).state ∨ ((e.life u).state ≠ 5 ∧ 6 ≤ l.state) ∨ (l.state = 1 ∧ ((e.life u).state = 0 ∨ (e.life u).state = 2 ∨ (e.life u).state = 4)) ∨ (l.state = 4 ∧ (e.life u).state = 2) ∨
      (l.state = 2 ∧ (e.life u).state = 1 ∧ ∃ (k : Nat) (x : Ev), e.log.length ≤ k ∧ e'.log[k]? = some x ∧ x.kind = 1 ∧ x.task = (u : Int)) ∨ (l.state = 5 ∧ (e.life u).state = 2 ∧ Did e'.log (u : Int))) : Stp e e' := by
  refine Stp.one u h1 h2 h3 (fun k hk => ⟨by rw [h4, upf_far _ _ _ hk], by rw [h6]⟩) ?_
  have hl : e'.life u = l := by rw [h4, upf_same]
  unfold Tr
  rw [hl]
  rcases h5 with h | h | h | h | h | h
  · exact .inl ⟨h, fun _ => by rw [h6]⟩
  · exact .inr (.inl h)
  · exact .inr (.inr (.inl ⟨h.1, by rcases h.2 with h | h | h; exact .inl h; exact .inr (.inl h); exact .inr (.inr (.inl h))⟩))
  · exact .inr (.inr (.inr (.inl h)))
  · exact .inr (.inr (.inr (.inr (.inl h))))
  · exact .inr (.inr (.inr (.inr (.inr h))))
theorem Stp.begins (e : Eng) (r : Nat) : Stp e (beginsSt e r) := by
  refine Stp.life (rootN e r) (stepSt (e.life (rootN e r)) 0 1) rfl rfl (no_more rfl) rfl rfl ?_
  rcases stepSt_cases (e.life (rootN e r)) 0 1 with ⟨h1, h2⟩ | ⟨h1, h2⟩
  · exact .inr (.inr (.inl ⟨h2, .inl h1⟩))
  · exact .inl (by rw [h2])
theorem Stp.follow {e e' : Eng} (h : FolStep e e') : Stp e e' := by
  obtain ⟨u, t, hu, ht, hw, h3, rfl⟩ := h
  refine Stp.one u rfl rfl (no_more rfl) (fun k hk => ⟨upf_far _ _ _ hk, upf_far _ _ _ hk⟩) ?_
  have hl : (followSt e u (e.life t).state).life u = followL (e.life u) (e.life t).state := upf_same _ _ _
  unfold Tr
  rw [hl]
  unfold followL
  by_cases h5 : (e.life t).state = 5
  · rw [if_pos h5]
    unfold stepSt
    rw [if_pos h3]
    exact .inr (.inr (.inl ⟨rfl, .inr (.inr (.inr ⟨h3, t, hw, h5⟩))⟩))
  · rw [if_neg h5]
    by_cases h6 : (e.life t).state = 6
    · rw [if_pos h6]
      unfold fallSt
      rw [if_pos (.inl h3)]
      exact .inr (.inl ⟨by omega, by show (6 : Int) ≤ 6; omega⟩)
    · rw [if_neg h6]
      unfold turnSt
      rw [if_pos (by omega)]
      exact .inr (.inl ⟨by omega, by show (6 : Int) ≤ 7; omega⟩)
structure Kp (e e' : Eng) : Prop where
  N : e'.N = e.N
  gr : e'.gr = e.gr
  w : GrInv e.gr → e.gr.N = e.N → ∀ X, Wtt e X → Wtt e' X
theorem Kp.refl (e : Eng) : Kp e e := ⟨rfl, rfl, fun _ _ _ h => h⟩
theorem Stp.kp {e e' : Eng} (h : Stp e e') : Kp e e' := ⟨h.N, h.gr, fun h1 h2 X hw => hw.step h h1 h2⟩
theorem Kp.quiet {e e' : Eng} (h1 : e'.N = e.N) (h2 : e'.gr = e.gr) (h3 : ∃ l, e'.log = e.log ++ l) (h4 : e'.life = e.life) (h5 : e'.waits = e.waits) : Kp e e' := (Stp.quiet h1 h2 h3 h4 h5).kp
theorem Kp.life {e e' : Eng} (u : Nat) (l : LifeS) (h1 : e'.N = e.N) (h2 : e'.gr = e.gr) (h3 : ∃ l, e'.log = e.log ++ l) (h4 : e'.life = upf e.life u l) (h6 : e'.waits = e.waits)
    (h5 : l.state = (e.life u).state ∨ ((e.life u).state ≠ 5 ∧ 6 ≤ l.state) ∨ (l.state = 1 ∧ ((e.life u).state = 0 ∨ (e.life u).state = 2 ∨ (e.life u).state = 4)) ∨ (l.state = 4 ∧ (e.life u).state = 2) ∨
      (l.state = 2 ∧ (e.life u).state = 1 ∧ ∃ (k : Nat) (x : Ev), e.log.length ≤ k ∧ e'.log[k]? = some x ∧ x.kind = 1 ∧ x.task = (u : Int)) ∨ (l.state = 5 ∧ (e.life u).state = 2 ∧ Did e'.log (u : Int))) : Kp e e' := (Stp.life u l h1 h2 h3 h4 h6 h5).kp
theorem Kp.trans {a b c : Eng} (h : Kp a b) (k : Kp b c) : Kp a c := ⟨k.N.trans h.N, k.gr.trans h.gr, fun h1 h2 X hw => k.w (by rw [h.gr]; exact h1) (by rw [h.gr, h.N]; exact h2) X (h.w h1 h2 X hw)⟩
theorem Kp.leaves (e : Eng) (r : Nat) (st : Int) : Kp e (leavesSt e r st) := by
  have h1 : Kp e (leftSt e r st) := (Kp.quiet rfl rfl (no_more rfl) rfl rfl)
  unfold leavesSt
  split
  · exact h1.trans (Stp.begins _ _).kp
  · exact h1
theorem Over.kp {e e' : Eng} (h : Over e e') : Kp e e' := by
  induction h with
  | done e _ => exact Kp.refl e
  | step r hr hf k ih => exact (Kp.leaves _ _ _).trans ih
theorem Fols.kp {e e' : Eng} (h : Fols e e') : Kp e e' := by
  induction h with
  | refl => exact Kp.refl _
  | step h k ih => exact ih.trans (Stp.follow k).kp
theorem Settled.kp {e e' : Eng} (h : Settled e e') : Kp e e' := by
  obtain ⟨e1, h1, h2⟩ := h
  exact h1.kp.trans h2.kp
theorem Settles.kp {e e' : Eng} {xs : List Int} (h : Settles e xs e') : Kp e e' := by
  induction h with
  | nil => exact Kp.refl _
  | snoc z h hf ho ih => exact ih.trans (hf.kp.trans ho.kp)
theorem Kp.ends (e : Eng) (kind : Int) (t : Nat) (q : Hp) : Kp e (endsSt e kind t q) := (Kp.quiet rfl rfl ⟨_, rfl⟩ rfl rfl)
theorem Missed.kp {e e' : Eng} {t : Nat} (h : Missed e t e') : Kp e e' := by
  have h0 : Kp e (missedE e t) := by
    refine (Kp.life t (missSt (e.life t)) rfl rfl (no_more rfl) rfl rfl ?_)
    unfold missSt
    by_cases h2 : (e.life t).state = 2
    · rw [if_pos h2]
      show _ ∨ ((e.life t).state ≠ 5 ∧ 6 ≤ (if (e.life t).tries ≤ (e.life t).missed + 1 then (6 : Int) else 4)) ∨ _ ∨ ((if (e.life t).tries ≤ (e.life t).missed + 1 then (6 : Int) else 4) = 4 ∧ _) ∨ _
      by_cases h3 : (e.life t).tries ≤ (e.life t).missed + 1
      · exact .inr (.inl ⟨by omega, by rw [if_pos h3]; omega⟩)
      · exact .inr (.inr (.inr (.inl ⟨if_neg h3, h2⟩)))
    · rw [if_neg h2]; exact .inl rfl
  rcases h with ⟨_, e2, hf, ho⟩ | ⟨_, q, hq, rfl⟩
  · exact h0.trans (hf.kp.trans ho.kp)
  · exact h0.trans (Kp.quiet rfl rfl (no_more rfl) rfl rfl)
theorem Kp.end_ (e : Eng) (t : Nat) (q : Hp) : Kp e (endE (endsSt e 2 t q) t) := by
  refine (Kp.ends e 2 t q).trans (Kp.life t (stepSt (e.life t) 2 5) rfl rfl (no_more rfl) rfl rfl ?_)
  rcases stepSt_cases (e.life t) 2 5 with ⟨h1, h2⟩ | ⟨h1, h2⟩
  · exact .inr (.inr (.inr (.inr (.inr ⟨h2, h1, e.log.length, evOf e 2 t, by show (e.log ++ [evOf e 2 t])[e.log.length]? = _; simp, rfl, rfl⟩))))
  · exact .inl (by rw [h2]; rfl)
theorem TickOne.kp {e e' : Eng} {u : Nat} (h : TickOne e u e') : Kp e e' := by
  rcases h with ⟨_, q, _, h⟩ | ⟨h, rfl⟩ | ⟨_, _, rfl⟩
  · exact (Kp.ends e 5 u q).trans h.kp
  · refine (Kp.life u (stepSt (e.life u) 4 1) rfl rfl (no_more rfl) rfl rfl ?_)
    rcases stepSt_cases (e.life u) 4 1 with ⟨h1, h2⟩ | ⟨h1, h2⟩
    · exact .inr (.inr (.inl ⟨h2, .inr (.inr h1)⟩))
    · exact .inl (by rw [h2])
  · exact Kp.refl _
theorem TickFold.kp {e e' : Eng} {us : List Nat} (h : TickFold e us e') : Kp e e' := by
  induction h with
  | nil => exact Kp.refl _
  | snoc h k ih => exact ih.trans k.kp
theorem TickR.kp {e e' : Eng} {rv : Value} {er : Int} (h : TickR e rv er e') : Kp e e' := by
  rcases h with ⟨_, _, _, rfl⟩ | ⟨_, _, _, ids, q, _, _, h⟩
  · exact Kp.refl _
  · exact (show Kp e { e with now := e.now + 1, tm := q } from (Kp.quiet rfl rfl (no_more rfl) rfl rfl)).trans h.kp
theorem Kp.starts (e : Eng) (t : Nat) (q : Hp) : Kp e (startsSt e t q) := by
  refine (Kp.life t (startSt (e.life t)) rfl rfl ⟨_, rfl⟩ rfl rfl ?_)
  unfold startSt
  by_cases h1 : (e.life t).state = 1
  · rw [if_pos h1]
    exact .inr (.inr (.inr (.inr (.inl ⟨rfl, h1, e.log.length, evOf (startedE e t) 1 t, Nat.le_refl _, by show (e.log ++ [evOf (startedE e t) 1 t])[e.log.length]? = _; simp, rfl, rfl⟩))))
  · rw [if_neg h1]; exact .inl rfl
theorem StartR.kp {e e' : Eng} {r : Int} {t : Nat} {rv : Value} {er : Int} (h : StartR e r t rv er e') : Kp e e' := by
  rcases h with ⟨_, _, _, rfl⟩ | ⟨_, _, _, q, _, rfl⟩
  · exact Kp.refl _
  · exact Kp.starts _ _ _
theorem SubmitR.kp {e e' : Eng} {o : Opr} {rv : Value} {er : Int} (h : SubmitR e o rv er e') : Kp e e' := by
  have h0 : Kp e (addR e o) := (Kp.quiet rfl rfl (no_more rfl) rfl rfl)
  rcases h with ⟨_, _, _, rfl⟩ | ⟨_, _, _, _, rfl⟩ | ⟨_, _, _, _, _, rfl⟩ | ⟨_, _, _, _, _, ⟨_, h⟩ | ⟨_, rfl⟩⟩
  · exact Kp.refl _
  · exact Kp.refl _
  · exact Kp.refl _
  · exact h0.trans ((Stp.begins _ _).kp.trans h.kp)
  · exact h0
theorem CancelR.kp {e e' : Eng} {o : Opr} {rv : Value} {er : Int} (h : CancelR e o rv er e') : Kp e e' := by
  rcases h with ⟨_, _, _, rfl⟩ | ⟨r, _, _, ⟨_, _, _, _, rfl⟩ | ⟨_, _, _, h⟩⟩
  · exact Kp.refl _
  · exact Kp.refl _
  · exact (Kp.leaves _ _ _).trans h.kp
theorem QueryR.kp {e e' : Eng} {o : Opr} {rv : Value} {er : Int} (h : QueryR e o rv er e') : Kp e e' := by
  rcases h with ⟨_, _, _, rfl⟩ | ⟨r, _, _, _, _, rfl⟩ <;> exact Kp.refl _
def stopE (e : Eng) (y : Nat) (q : Hp) : Eng := { endsSt e 6 y q with life := upf e.life y (stopSt (e.life y)) }
theorem Kp.stop (e : Eng) (y : Nat) (q : Hp) : Kp e (stopE e y q) := by
  refine (Kp.life y (stopSt (e.life y)) rfl rfl ⟨_, rfl⟩ rfl rfl ?_)
  unfold stopSt
  by_cases h : (e.life y).state = 2 ∧ (e.life y).stopped < (e.life y).preempts
  · rw [if_pos h]; exact .inr (.inr (.inl ⟨rfl, .inr (.inl h.1)⟩))
  · rw [if_neg h]; exact .inl rfl
theorem Wtt.turnE {e : Eng} {X : Nat → Prop} (h : Wtt e X) (hg : GrInv e.gr) (hN : e.gr.N = e.N) (t : Nat) : Wtt (Ld.turnE e t) X := by
  refine h.step (Stp.one t rfl rfl (no_more rfl) (fun k hk => ⟨upf_far _ _ _ hk, upf_far _ _ _ hk⟩) ?_) hg hN
  have hl : (Ld.turnE e t).life t = turnSt (e.life t) := upf_same _ _ _
  unfold Tr
  rw [hl]
  unfold turnSt
  by_cases h5 : (e.life t).state < 5
  · rw [if_pos h5]; exact .inr (.inl ⟨by omega, by show (6 : Int) ≤ 7; omega⟩)
  · rw [if_neg h5]; exact .inl ⟨rfl, fun h => by omega⟩
theorem turnSt_fin (l : LifeS) : 5 ≤ (turnSt l).state := by
  unfold turnSt
  split
  · show (5 : Int) ≤ 7; omega
  · omega
theorem Wtt.turnAll {X : Nat → Prop} (xs : List Int) : ∀ e : Eng, Wtt e X → GrInv e.gr → e.gr.N = e.N → Wtt (turnAll e xs) X ∧ (turnAll e xs).gr = e.gr ∧ (∀ t : Nat, ((e.life t).state < 5 → ((turnAll e xs).life t).state = (e.life t).state ∨ 6 ≤ ((Ld.turnAll e xs).life t).state) ∧ (5 ≤ (e.life t).state → ((Ld.turnAll e xs).life t).state = (e.life t).state)) ∧ ∀ t : Nat, (t : Int) ∈ xs → 5 ≤ ((Ld.turnAll e xs).life t).state := by
  induction xs with
  | nil => exact fun e h _ _ => ⟨h, rfl, fun t => ⟨fun _ => .inl rfl, fun _ => rfl⟩, fun t ht => by simp at ht⟩
  | cons z xs ih =>
    intro e h hg hN
    obtain ⟨i1, i2, i3, i4⟩ := ih (Ld.turnE e z.toNat) (h.turnE hg hN z.toNat) hg hN
    refine ⟨i1, i2, fun t => ?_, fun t ht => ?_⟩
    · have h3 := i3 t
      have hs : ((Ld.turnE e z.toNat).life t).state = (e.life t).state ∨ ((e.life t).state < 5 ∧ ((Ld.turnE e z.toNat).life t).state = 7) := by
        by_cases hz : t = z.toNat
        · rw [hz, show (Ld.turnE e z.toNat).life z.toNat = turnSt (e.life z.toNat) from upf_same _ _ _]
          unfold turnSt
          by_cases h5 : (e.life z.toNat).state < 5
          · rw [if_pos h5]; exact .inr ⟨h5, rfl⟩
          · rw [if_neg h5]; exact .inl rfl
        · rw [show (Ld.turnE e z.toNat).life t = e.life t from upf_far _ _ _ hz]; exact .inl rfl
      show ((e.life t).state < 5 → ((Ld.turnAll (Ld.turnE e z.toNat) xs).life t).state = (e.life t).state ∨ 6 ≤ ((Ld.turnAll (Ld.turnE e z.toNat) xs).life t).state) ∧ (5 ≤ (e.life t).state → ((Ld.turnAll (Ld.turnE e z.toNat) xs).life t).state = (e.life t).state)
      refine ⟨fun h5 => ?_, fun h5 => ?_⟩
      · rcases hs with hs | ⟨_, hs⟩
        · have := h3.1 (by omega); omega
        · have := h3.2 (by omega); omega
      · rcases hs with hs | ⟨h6, _⟩
        · have := h3.2 (by omega); omega
        · omega
    · rcases List.mem_cons.1 ht with ht | ht
      · have hz : t = z.toNat := by omega
        have h5 : 5 ≤ ((Ld.turnE e z.toNat).life t).state := by
          rw [hz, show (Ld.turnE e z.toNat).life z.toNat = turnSt (e.life z.toNat) from upf_same _ _ _]; exact turnSt_fin _
        have := (i3 t).2 h5
        show 5 ≤ ((Ld.turnAll (Ld.turnE e z.toNat) xs).life t).state
        omega
      · exact i4 t ht
theorem edge_mem {e : Eng} {t d : Nat} {nn : Int} {k : Nat} {z : Int} : z ∈ (edgeE e t d nn).gr.L false k ↔ z ∈ e.gr.L false k ∨ (k = t ∧ z = (d : Int)) := addG_f e.gr t d k z
theorem Wtt.edge {e : Eng} (h : Wtt e fun _ => False) (t d : Nat) (nn : Int) : Wtt (edgeE e t d nn) fun k => k = t := by
  refine ⟨fun k hk hx z hz => ?_, h.b⟩
  rcases edge_mem.1 hz with hz | ⟨h1, _⟩
  · exact h.a k hk (fun h => h) z hz
  · exact absurd h1 hx
theorem Wtt.full {e : Eng} {t : Nat} (h : Wtt e fun k => k = t) (ht : ∀ d : Nat, (d : Int) ∈ e.gr.L false t →
    (((e.life t).state = 1 ∨ (e.life t).state = 2 ∨ (e.life t).state = 4 ∨ (e.life t).state = 5) → (e.life d).state = 5) ∧
    ((e.life t).state = 3 → e.waits t = (d : Int) ∨ (e.life d).state = 5) ∧ (e.life t).state ≠ 0 ∧
    (((e.life t).state = 2 ∨ (e.life t).state = 5) → Bef e.log (d : Int) (t : Int))) : Wtt e fun _ => False := by
  refine ⟨fun k hk _ d hd => ?_, h.b⟩
  by_cases hkt : k = t
  · subst hkt; exact ht d hd
  · exact h.a k hk hkt d hd
theorem Wtt.gone {e : Eng} {t : Nat} (h : Wtt e fun k => k = t) (h6 : 6 ≤ (e.life t).state) : Wtt e fun _ => False :=
  h.full fun d _ => ⟨fun h => by omega, fun h => by omega, by omega, fun h => by omega⟩
theorem Wtt.setL {e : Eng} {t : Nat} (h : Wtt e fun k => k = t) {l : LifeS} (h5 : (e.life t).state ≠ 5) (h6 : l.state ≠ 5) : Wtt (setL e t l) fun k => k = t := by
  have hf : ∀ k, k ≠ t → (Ld.setL e t l).life k = e.life k := fun k hk => upf_far _ _ _ hk
  have hl : (Ld.setL e t l).life t = l := upf_same _ _ _
  refine ⟨fun k hk hx d hd => ?_, fun k hk hk5 => ?_⟩
  · rw [hf k hx]
    have h0 := h.a k hk hx d hd
    by_cases hdt : d = t
    · rw [hdt] at h0 ⊢
      exact ⟨fun h => absurd (h0.1 h) h5, fun h => .inl ((h0.2.1 h).resolve_right h5), h0.2.2.1, h0.2.2.2⟩
    · rw [hf d hdt]; exact h0
  · by_cases hkt : k = t
    · rw [hkt, hl] at hk5; exact absurd hk5 h6
    · rw [hf k hkt] at hk5; exact h.b k hk hk5
theorem NeedsR.wt {e e' : Eng} {t d : Nat} (h : NeedsR e t d e') (hg : GrInv e.gr) (hN : e.gr.N = e.N) (ht : t < e.N) (hd : d < e.N) (hno : (e.gr.T t).testBit d = false) (h2 : (e.life t).state = 2) (hw : Wtt e fun _ => False) : Wtt e' fun _ => False := by
  obtain ⟨nn, xs, hp, h⟩ := h
  have hw1 := hw.edge t d nn
  have hg1 : GrInv (edgeE e t d nn).gr := { addG_inv hg (by rw [hN]; exact ht) (by rw [hN]; exact hd) hno with }
  have hN1 : (edgeE e t d nn).gr.N = (edgeE e t d nn).N := hN
  have hold : ∀ z : Nat, (z : Int) ∈ e.gr.L false t → (e.life z).state = 5 := fun z hz => (hw.a t ht (fun h => h) z hz).1 (by omega)
  rcases h with ⟨hne, hs⟩ | ⟨h5, rfl⟩ | ⟨h6, hs⟩ | ⟨h7, hs⟩ | ⟨h5, hs⟩
  · have hmem : (t : Int) ∈ xs := hp.end_.resolve_left hne
    obtain ⟨k1, k2, k3, k4⟩ := Wtt.turnAll xs _ hw1 hg1 hN1
    have h6 : 6 ≤ ((turnAll (edgeE e t d nn) xs).life t).state := by
      have a1 := k4 t hmem
      have a2 := (k3 t).1 (by show (e.life t).state < 5; omega)
      have a3 : ((edgeE e t d nn).life t).state = 2 := h2
      omega
    exact hs.kp.w (by rw [k2]; exact hg1) (by rw [k2, turnAll_N]; exact hN1) _ (k1.gone h6)
  · have hl : (setL (edgeE e t d nn) t (stepSt (e.life t) 2 1)).life t = stepSt (e.life t) 2 1 := upf_same _ _ _
    have hs1 : (stepSt (e.life t) 2 1).state = 1 := by unfold stepSt; rw [if_pos h2]
    refine (hw1.setL (l := stepSt (e.life t) 2 1) (by show (e.life t).state ≠ 5; omega) (by omega)).full fun z hz => ?_
    rw [hl]
    have hz5 : ((setL (edgeE e t d nn) t (stepSt (e.life t) 2 1)).life z).state = 5 := by
      rcases edge_mem.1 hz with hz | ⟨_, hz⟩
      · have h5z := hold z hz
        rw [show (setL (edgeE e t d nn) t (stepSt (e.life t) 2 1)).life z = e.life z from upf_far _ _ _ (fun h => by rw [h] at h5z; omega)]; exact h5z
      · obtain rfl : z = d := by omega
        rw [show (setL (edgeE e t z nn) t (stepSt (e.life t) 2 1)).life z = e.life z from upf_far _ _ _ (fun h => by rw [h] at h5; omega)]; exact h5
    exact ⟨fun _ => hz5, fun h => by omega, by omega, fun h => by omega⟩
  · obtain ⟨ew, hew⟩ : ∃ ew, waitE (edgeE e t d nn) t = ew := ⟨_, rfl⟩
    have hl0 : ew.life t = stepSt (e.life t) 2 3 := by rw [← hew]; exact upf_same _ _ _
    have hs0 : (ew.life t).state = 3 := by rw [hl0]; unfold stepSt; rw [if_pos h2]
    have hw2 : Wtt ew fun k => k = t := by rw [← hew]; exact hw1.setL (by show (e.life t).state ≠ 5; omega) (by show (stepSt (e.life t) 2 3).state ≠ 5; rw [← hl0]; omega)
    rw [hew] at hs
    have hs1 : (fallSt (ew.life t)).state = 6 := by unfold fallSt; rw [if_pos (.inl hs0)]
    have hw3 := (hw2.setL (l := fallSt (ew.life t)) (by omega) (by omega)).gone (by rw [show (setL ew t (fallSt (ew.life t))).life t = fallSt (ew.life t) from upf_same _ _ _]; omega)
    have hgr : (setL ew t (fallSt (ew.life t))).gr = (edgeE e t d nn).gr := by rw [← hew]; rfl
    have hNN : (setL ew t (fallSt (ew.life t))).N = e.N := by rw [← hew]; rfl
    exact hs.kp.w (by rw [hgr]; exact hg1) (by rw [hgr, hNN]; exact hN1) _ hw3
  · have hs1 : (turnSt (e.life t)).state = 7 := by unfold turnSt; rw [if_pos (by omega)]
    have hw3 := (hw1.setL (l := turnSt (e.life t)) (by show (e.life t).state ≠ 5; omega) (by omega)).gone (by rw [show (setL (edgeE e t d nn) t (turnSt (e.life t))).life t = turnSt (e.life t) from upf_same _ _ _]; omega)
    exact hs.kp.w hg1 hN1 _ hw3
  · obtain ⟨ew, hew⟩ : ∃ ew, setW (waitE (edgeE e t d nn) t) t (d : Int) = ew := ⟨_, rfl⟩
    have hl0 : ew.life t = stepSt (e.life t) 2 3 := by rw [← hew]; exact upf_same _ _ _
    have hs0 : (ew.life t).state = 3 := by rw [hl0]; unfold stepSt; rw [if_pos h2]
    have hlf : ∀ k, k ≠ t → ew.life k = e.life k := fun k hk => by rw [← hew]; exact upf_far _ _ _ hk
    have hwt : ew.waits t = (d : Int) := by rw [← hew]; exact upf_same _ _ _
    have hgr : ew.gr = (edgeE e t d nn).gr := by rw [← hew]; rfl
    have hNN : ew.N = e.N := by rw [← hew]; rfl
    have hwf : ∀ k, k ≠ t → ew.waits k = e.waits k := fun k hk => by rw [← hew]; exact upf_far _ _ _ hk
    have hlog : ew.log = e.log := by rw [← hew]; rfl
    have hw2 : Wtt (waitE (edgeE e t d nn) t) fun k => k = t := hw1.setL (by show (e.life t).state ≠ 5; omega) (by show (stepSt (e.life t) 2 3).state ≠ 5; rw [← hl0]; omega)
    have hw3 : Wtt ew fun k => k = t := by
      refine ⟨fun k hk hx z hz => ?_, fun k hk h5 => ?_⟩
      · have h0 := hw2.a k (by rw [hNN] at hk; exact hk) hx z (by rw [hgr] at hz; exact hz)
        rw [← hew]
        show _ ∧ (_ → upf _ _ _ k = _ ∨ _) ∧ _
        rw [upf_far _ _ _ hx]
        exact h0
      · rw [hlog]; exact hw2.b k (by rw [hNN] at hk; exact hk) (by rw [← hew] at h5; exact h5)
    have hw4 : Wtt ew fun _ => False := by
      refine hw3.full fun z hz => ?_
      refine ⟨fun h => by omega, fun _ => ?_, by omega, fun h => by omega⟩
      rw [hgr] at hz
      rcases edge_mem.1 hz with hz | ⟨_, hz⟩
      · have h5z := hold z hz
        exact .inr (by rw [hlf z (fun h => by rw [h] at h5z; omega)]; exact h5z)
      · exact .inl (hwt.trans hz.symm)
    rw [hew] at hs
    rcases hs with ⟨_, rfl⟩ | ⟨h0, rfl⟩
    · exact hw4
    · have hs1 : (stepSt (ew.life d) 0 1).state = 1 := by unfold stepSt; rw [if_pos h0]
      exact (Kp.life (e := ew) (e' := setL ew d (stepSt (ew.life d) 0 1)) d (stepSt (ew.life d) 0 1) rfl rfl (no_more rfl) rfl rfl (.inr (.inr (.inl ⟨hs1, .inl h0⟩)))).w (by rw [hgr]; exact hg1) (by rw [hgr, hNN]; exact hN1) _ hw4
end Go.Proofs.YtbpoapfkeinjnaaGreatDoor.Ld
namespace Go.Proofs.YtbpoapfkeinjnaaGreatDoor.Ld
open Go.RowKit Go.Proofs.YtbpoapfkeinjnaaGreatDoorW.PrintWords Go.Proofs.YtbpoapfkeinjnaaGreatDoorW.PrintLast Go.Proofs.YtbpoapfkeinjnaaGreatDoorW.PrintMore
set_option linter.unusedVariables false
set_option linter.unusedSimpArgs false
set_option linter.unnecessarySimpa false
attribute [local go_sem] max2_int min2_int max_two min_two
def FitsV (e : Eng) (l : List Nat) (e' : Eng) (ys : List Nat) : Prop :=
  (e' = e ∧ (ys = l ∨ ys = [])) ∨ ∃ y q, y < e.N ∧ DelRel e.tm q y ∧ e' = stopE e y q ∧ ys = [l.getD 0 0]
theorem memI_mono {m f : Int} (h : m ≤ f) : memI m ≤ memI f := by
  unfold memI
  repeat' split
  all_goals omega
theorem LifeOk.stop {b : Int} {l : LifeS} (h : LifeOk b l) : LifeOk b (stopSt l) := by
  unfold stopSt
  split
  · next hc => exact ⟨by show 0 ≤ (1 : Int) ∧ (1 : Int) ≤ 7; omega, h.ep, h.ms, by rcases h.mt with h3 | h3; exact .inl h3; omega, h.tr, by have := h.sp; show 0 ≤ l.stopped + 1 ∧ l.stopped + 1 ≤ l.preempts; omega, h.pr⟩
  · exact h
theorem stopE_inv {e : Eng} (h : EngInv e) {y : Nat} (hy : y < e.N) {q : Hp} (hq : DelRel e.tm q y) : EngInv (stopE e y q) :=
  (endsSt_inv h hq).setLife y _ (h.life y hy).stop
theorem ChooseP.one {w : World} {N : Nat} {e : Ending} {w' : World} (h : ChooseP w N e w') : ∃ v q, e = .returned (.tuple #[v, .bool q]) ∧ Aside0 (Below w.heap.size w w' ∧ ((q = false ∧ v = .slice none 0 0) ∨ (q = true ∧ ∃ y : Nat, y < N ∧ NewRow w v [(y : Int)] w'))) := by
  rcases h with ⟨h1, h2⟩ | ⟨v, y, h1, h2, h3⟩
  · exact ⟨_, _, h1, ⟨h2, .inl ⟨rfl, rfl⟩⟩⟩
  · exact ⟨_, _, h1, ⟨h3.2, .inr ⟨rfl, y, h2, h3⟩⟩⟩
theorem add_zero_ (ad : Addr) : ad.add 0 = ad := by unfold Addr.add; split <;> simp_all
set_option maxHeartbeats 8000000 in
set_option maxRecDepth 100000 in
theorem fits_none (S : Nat → Prop) (g : Nat) (K : EK) (e : Eng) (xs : List Nat) (n cp np cq : Nat) (B P : Option Addr) (pr : Int) (prs : List Int) (w : World) (H : EngAt S w g K e) (hi : EngInv e) (hl : e.log.length ≤ 1000000) (hs : slots e.led = 0) (hx : xs ≠ []) (hn : xs.length = n) (hn2 : n ≤ 12) (hall : ∀ x, x ∈ xs → x < e.N) (hr : RI w B (nats xs)) (hnp : np = e.N) (hp : RI w P prs) (hpl : prs.length = np) :
    Calls Tryz.prog 54 #[.pointer (some ⟨g, 0, none⟩), .slice B n cp, .int .i64 pr, .slice P np cq] w (FitsPost S g K (FitsV e xs) w) := by
  subst hnp
  have HLG := Aside0.mk hl
  have HPR := Aside0.mk (And.intro hp hpl)
  have HE := Aside0.mk H
  have HI := Aside0.mk hi
  have HALL := Aside0.mk hall
  have HX := Aside0.mk (And.intro hx hn)
  have HR := Aside0.mk hr
  obtain ⟨A, ca, hva, c10, htds⟩ := H.tds
  obtain ⟨c15, hat, _⟩ := H.led
  have c5 := H.fc.2.1
  have HTDS := Aside0.mk htds
  have hN := hi.N
  obtain ⟨N, hNN⟩ : ∃ N, e.N = N := ⟨_, rfl⟩
  obtain ⟨room, hroom⟩ : ∃ room, e.led.budget - e.led.used = room := ⟨_, rfl⟩
  have HRM := Aside0.mk hroom
  have HQ := Aside0.mk (fun k => Calls.quiet_of ((Room_r hroom hi.led.pos hi.led.le hi.led.big (w.drewN k) hat).mono fun _ _ ⟨h1, h2⟩ => ⟨h1, h2.out⟩))
  have HM := Aside0.mk (show ∀ x, x ∈ xs → x < N ∧ e.mem x ≤ room from fun x hx => ⟨hNN ▸ hall x hx, by have := hi.fits (hall x hx); omega⟩)
  have HRUN := Aside0.mk (fun (w' : World) (hb : Below w.heap.size w w') => runs_calls S g K e P cq prs w' (H.keep hb) hi.N.2 (ReadsOf.below hp hb) hpl)
  have HROOM := Aside0.mk (fun (w' : World) (hb : Below w.heap.size w w') => Room_r hroom hi.led.pos hi.led.le hi.led.big w' ((H.keep hb).led.2.1))
  have HSLOT := Aside0.mk (fun (w' : World) (hb : Below w.heap.size w w') => Slots_calls K.gl e.led hi.led.many w' ((H.keep hb).led.2.1))
  rw [hNN] at HRUN
  have hN12 := hi.N.2
  have HNN := Aside0.mk hNN
  rw [hNN] at c10 htds hN hN12 hpl ⊢
  have HTD := Aside0.mk htds
  have hpos : 0 < n := by rw [← hn]; exact List.length_pos_iff.2 hx
  have HSL := Aside0.mk hs
  obtain ⟨pe, hpe⟩ : ∃ pe, e.c.preempts = pe := ⟨_, rfl⟩
  rw [hpe] at c5
  have HC := Aside0.mk (And.intro c10 (And.intro c15 c5))
  clear H hi hall hx hn hr hva hat HTDS htds hNN hroom hp hpl hl hs hpe c5
  go_enter Tryz.func54, Tryz.ntmps54
  go_wp2
  refine Qt.wp_region_quiet_tail 10 (by kernel_rfl) (by kernel_rfl) ?_
  simp only [List.take_succ_cons, List.take_zero, List.drop_succ_cons, List.drop_zero]
  repeat (go_big_quiet_step ((go_at_call 95; exact HQ.out _)))
  refine wpQuiet_nil ?_
  intro w9 hw9
  have HB9 := Aside0.mk (show Below w.heap.size w w9 from by obtain ⟨m, rfl⟩ := hw9; exact pw_below_drewN (Below.refl _ _) m)
  clear hw9
  go_upto_region 4 with (first
    | (go_at_call 94; go_loud (refine (Fits_calls xs n cp N ca A B room e.mem e.cost HX.out.2 (by omega) (by omega) HM.out _ (ReadsOf.below HR.out HB9.out) (HTD.out.below HB9.out)).mono ?_); rintro en w2 ⟨A6, c6, rfl, hr6, hb6⟩; have HB2 := Aside0.mk (below_step HB9.out hb6); clear c15 c10; have c15 := pw_cell_below HB2.out HC.out.2.1; have HLED := Aside0.mk ((HE.out.keep HB2.out).led.2.1); clear hb6 hr6)
    | (go_at_call 96; go_loud (refine (Slots_calls K.gl e.led HI.out.led.many _ HLED.out).mono ?_); rintro en w3 ⟨rfl, hb3⟩; rw [HSL.out]; have HB3 := Aside0.mk (below_step HB2.out hb3); clear hb3))
  clear c15
  obtain ⟨ad, rfl, hcell⟩ := RI.at_ (ReadsOf.below HR.out HB3.out) 0 (by rw [nats_len, HX.out.2]; exact hpos)
  rw [nats_getD _ _ (by rw [HX.out.2]; exact hpos)] at hcell
  have hfm := getD_mem xs 0 (by rw [HX.out.2]; exact hpos)
  obtain ⟨fi, hfi⟩ : ∃ fi, xs.getD 0 0 = fi := ⟨_, rfl⟩
  rw [hfi, add_zero_] at hcell
  rw [hfi] at hfm
  have HFM := Aside0.mk (HM.out fi hfm)
  have HFI := Aside0.mk hfi
  have p1 : (0 ≤ (fi : Int)) = True := eq_true (by omega)
  have p2 : ((fi : Int) < (N : Int)) = True := eq_true (by have := HFM.out.1; omega)
  have p3 : ((0 : Int) < (n : Int)) = True := eq_true (by omega)
  clear hfi hfm
  go_upto_region 5 with (fail)
  obtain ⟨at_, rfl, hmem, _⟩ := HTD.out.at_ fi HFM.out.1
  obtain ⟨mf, hmf⟩ : ∃ mf, e.mem fi = mf := ⟨_, rfl⟩
  rw [hmf] at hmem
  have HMF := Aside0.mk (show mf ≤ room from hmf ▸ HFM.out.2)
  have HC4 := Aside0.mk (show ∀ w', Below w.heap.size w w' → w'.cell? ⟨g, 10, none⟩ = some (.slice (some at_) N ca) ∧ w'.cell? ⟨g, 15, none⟩ = some (.pointer (some ⟨K.gl, 0, none⟩)) ∧ w'.cell? ⟨g, 5, none⟩ = some (.int .i64 pe) ∧ w'.cell? (at_.add (fi * 2)) = some (.int .i64 mf) from fun w' hb => ⟨pw_cell_below hb HC.out.1, pw_cell_below hb HC.out.2.1, pw_cell_below hb HC.out.2.2, pw_cell_below hb hmem⟩)
  clear hmf hmem hcell
  obtain ⟨d1, d2, d3, d4⟩ := HC4.out w3 HB3.out
  go_cut [12, 13] (fun v12 v13 wc => ∃ q, v13 = .bool q ∧ Aside0 (Below w.heap.size w wc ∧ ((q = false ∧ v12 = .slice none 0 0) ∨ (q = true ∧ ∃ y : Nat, y < N ∧ ∃ (AV : Option Addr) (cV : Nat), v12 = .slice AV 1 cV ∧ RI wc AV [(y : Int)]))))
  case first =>
    go_region_held3 (fun w' => w'.cell? ⟨g, 10, none⟩ = some (.slice (some at_) N ca) ∧ w'.cell? ⟨g, 15, none⟩ = some (.pointer (some ⟨K.gl, 0, none⟩)) ∧ w'.cell? ⟨g, 5, none⟩ = some (.int .i64 pe) ∧ w'.cell? (at_.add (fi * 2)) = some (.int .i64 mf)) (first | exact HX8.out | exact HX7.out | exact HX6.out | exact HX5.out | go_keep)
      (first
        | (go_at_call 98; go_loud (refine (HRUN.out _ (below_step HB3.out ?q1)).mono ?_); (case q1 => first | exact Below.refl _ _ | exact pw_below_drewN (Below.refl _ _) 1); rintro en w5 ⟨v5, rs, rfl, h5⟩; go_loud (obtain ⟨AR, cR, rfl⟩ := h5.out.1.1.slice); have HRS := Aside0.mk h5.out; have HB5 := Aside0.mk (below_step HB3.out (show Below w3.heap.size w3 w5 from ⟨h5.out.1.2.os, h5.out.1.2.tape, h5.out.1.2.output, h5.out.1.2.size, h5.out.1.2.block⟩)); have HX5 := Aside0.mk (HC4.out w5 HB5.out); clear h5)
        | (go_at_call 95; go_loud (refine (HROOM.out _ (below_step HB5.out ?q1)).mono ?_); (case q1 => first | exact Below.refl _ _ | exact pw_below_drewN (Below.refl _ _) 1); rintro en w6 ⟨rfl, h6⟩; have HB56 := Aside0.mk (show Below w5.heap.size w5 w6 from ⟨h6.below.os, h6.below.tape, h6.below.output, h6.below.size, h6.below.block⟩); have HB6 := Aside0.mk (below_step HB5.out HB56.out); have HX6 := Aside0.mk (HC4.out w6 HB6.out); clear h6)
        | (go_at_call 96; go_loud (refine (HSLOT.out _ (below_step HB6.out ?q1)).mono ?_); (case q1 => first | exact Below.refl _ _ | exact pw_below_drewN (Below.refl _ _) 1); rintro en w7 ⟨rfl, h7⟩; rw [HSL.out]; have HB67 := Aside0.mk (show Below w6.heap.size w6 w7 from ⟨h7.os, h7.tape, h7.output, h7.size, h7.block⟩); have HB7 := Aside0.mk (below_step HB6.out HB67.out); have HX7 := Aside0.mk (HC4.out w7 HB7.out); clear h7)
        | (go_at_call 97; go_loud (refine (choose_calls AR rs.length cR N pr mf room pe rs _ _ (((HRS.out.1.on HB56.out).on HB67.out).on ?q1) rfl HRS.out.2.2 HRS.out.2.1 (memI_mono HMF.out)).mono ?_); (case q1 => first | exact Below.refl _ _ | exact pw_below_drewN (Below.refl _ _) 1); rintro en w8 h8; obtain ⟨v8, q8, rfl, hq8⟩ := h8.one; have HQ8 := Aside0.mk hq8.out; have HB8 := Aside0.mk (below_step HB7.out (show Below w7.heap.size w7 w8 from ⟨hq8.out.1.os, hq8.out.1.tape, hq8.out.1.output, hq8.out.1.size, hq8.out.1.block⟩)); have HX8 := Aside0.mk (HC4.out w8 HB8.out); clear h8 hq8))
    all_goals
      go_wp2
      go_meet
      exact ⟨q8, rfl, ⟨HB8.out, by
        rcases HQ8.out.2 with h | ⟨h1, y, h2, h3⟩
        · exact .inl h
        · exact .inr ⟨h1, y, h2, h3.ri⟩⟩⟩
  case rest =>
    obtain ⟨q, rfl, hA⟩ := hcut
    have HBC := Aside0.mk hA.out.1
    have hq := hA.out.2
    clear hA d1 d2 d3 d4
    rcases hq with ⟨rfl, rfl⟩ | ⟨rfl, y, hy, AV, cV, rfl, hri⟩
    · go_wp2
      go_ret2
      exact .inl ⟨e, rfl, .inl ⟨rfl, .inr rfl⟩, To.of_below HE.out HBC.out⟩
    · have HY := Aside0.mk (show y < e.N from by rw [HNN.out]; exact hy)
      have HRI := Aside0.mk hri
      clear hri
      go_wp2
      go_loopg [82] 3 (fun kq v82 wr => ∃ i : Nat, v82 = .int .i64 (i : Int) ∧ Aside0 (kq + i = 3 ∧ ((i = 0 ∧ Below wc.heap.size wc wr) ∨ (i = 1 ∧ ∃ q, DelRel e.tm q y ∧ To S w g K (stopE e y q) wr))))
      case atStart => exact ⟨0, rfl, ⟨by omega, .inl ⟨rfl, by first | exact Below.refl _ _ | exact pw_below_drewN (Below.refl _ _) 1⟩⟩⟩
      case round =>
        obtain ⟨i, rfl, hA⟩ := hrel
        obtain ⟨hk, ⟨rfl, hb⟩ | ⟨rfl, q, hq, hto⟩⟩ := hA.out
        · have HBR := Aside0.mk (below_step HBC.out hb)
          obtain ⟨adv, rfl, cv⟩ := RI.at_ (ReadsOf.below HRI.out hb) 0 (by simp)
          have cv' : wr.cell? adv = some (.int .i64 (y : Int)) := by rw [add_zero_] at cv; exact cv
          have HER := Aside0.mk (HE.out.keep HBR.out)
          clear hA hb cv
          go_upto_region 12 with (go_at_call 47; go_loud (refine (ends_calls S g K e 6 y _ HER.out HI.out HY.out HLG.out).mono ?_); rintro en w2 ⟨rfl, q, hq, hto⟩; have HQQ := Aside0.mk hq; have HT2 := Aside0.mk hto; clear hq hto)
          have c11 := HT2.out.1.ftasks
          obtain ⟨ct, _, cl, _, _, _⟩ := HT2.out.1.ftask y HY.out
          obtain ⟨hli, hlb⟩ := HT2.out.1.flife y HY.out
          have HLI := Aside0.mk hli
          have HLB := Aside0.mk hlb
          have HLO := Aside0.mk (HI.out.life y HY.out)
          have q1 : (0 ≤ (y : Int)) = True := eq_true (by omega)
          have q2 : ((y : Int) < ((endsSt e 6 y q).N : Int)) = True := eq_true (by have := HY.out; show (y : Int) < (e.N : Int); omega)
          clear hli hlb
          go_wp2_with (go_at_call 99; go_loud (refine (LStop_calls (K.lp y) (e.life y) HLO.out.st ⟨HLO.out.sp.1, by have := HLO.out.sp; have := HLO.out.pr; omega⟩ _ HLI.out).mono ?_); rintro en w3' ⟨⟨er, rfl⟩, h3, h4⟩; have HT3 := Aside0.mk (To.after_below HBR.out (HT2.out.trans (HLB.out _ _ h3 h4))); clear h3 h4)
          go_roundg (gk - 1)
          case measure => omega
          case rel => exact ⟨1, rfl, ⟨by omega, .inr ⟨rfl, q, HQQ.out, HT3.out⟩⟩⟩
        · have HQQ := Aside0.mk hq
          have HT := Aside0.mk hto
          clear hA hq hto
          go_wp2
          go_ret2
          refine .inr ⟨some ⟨wr.heap.size, 0, none⟩, 1, [fi], stopE e y q, rfl, ri_lit wr [(fi : Int)] (by simp), by simp, .inr ⟨y, q, HY.out, HQQ.out, rfl, by rw [HFI.out]⟩, HT.out.then_below (below_alloc (Below.refl _ _) _)⟩
end Go.Proofs.YtbpoapfkeinjnaaGreatDoor.Ld
