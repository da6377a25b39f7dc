/- The engine of the yard and what it leans on, part 36. -/
import Derived.Test.YtbpoapfkeinjnaaGreatDoorK35
namespace Go.Proofs.YtbpoapfkeinjnaaGreatDoor.Ld
open Go.RowKit Go.Proofs.YtbpoapfkeinjnaaGreatDoorW.PrintWords Go.Proofs.YtbpoapfkeinjnaaGreatDoorW.PrintLast Go.Proofs.YtbpoapfkeinjnaaGreatDoorW.PrintMore
set_option linter.unusedVariables false
set_option linter.unusedSimpArgs false
structure Nx (e e' : Eng) : Prop where
  inv : EngInv e'
  sync : Sync e'
  N : e'.N = e.N
  begun : e'.begun ≤ e.begun + 1
  log : e'.log.length ≤ e.log.length + 12
  wt : (Wtt e fun _ => False) → Wtt e' fun _ => False
theorem Kp.wt {e e' : Eng} (k : Kp e e') (h : EngInv e) : (Wtt e fun _ => False) → Wtt e' fun _ => False := k.w h.gr h.gN _
theorem Nx.refl {e : Eng} (h : EngInv e) (hs : Sync e) : Nx e e := ⟨h, hs, rfl, by omega, by omega, fun h => h⟩
theorem SubmitR.nx {e e' : Eng} {o : Opr} {rv : Value} {er : Int} (h : SubmitR e o rv er e') (hi : EngInv e) (hs : Sync e) : Nx e e' := by
  have hk := h.kp
  rcases h with ⟨_, _, _, rfl⟩ | ⟨_, _, _, _, rfl⟩ | ⟨_, _, _, _, _, rfl⟩ | ⟨ho, h64, h0, _, _, ⟨h1, h⟩ | ⟨h1, rfl⟩⟩
  · exact Nx.refl hi hs
  · exact Nx.refl hi hs
  · exact Nx.refl hi hs
  · have i1 := addR_inv hi o ho h64 h0
    have i2 := beginsSt_inv i1 (r := e.nr) (by show e.nr < e.nr + 1; omega) (addR_tu hi hs o)
    have i3 := h.inv i2 ((addR_sync hi hs o ho h0).1 h1)
    have sm := h.sm
    exact ⟨i3.1, i3.2, sm.N, by rw [sm.begun]; show e.begun ≤ e.begun + 1; omega, by rw [sm.log]; show e.log.length ≤ _; omega, hk.wt hi⟩
  · exact ⟨addR_inv hi o ho h64 h0, (addR_sync hi hs o ho h0).2.1 h1, rfl, by show e.begun ≤ e.begun + 1; omega, by show e.log.length ≤ e.log.length + 12; omega, hk.wt hi⟩
theorem CancelR.nx {e e' : Eng} {o : Opr} {rv : Value} {er : Int} (h : CancelR e o rv er e') (hi : EngInv e) (hs : Sync e) : Nx e e' := by
  have hk := h.kp
  rcases h with ⟨_, _, _, rfl⟩ | ⟨r, _, _, ⟨_, _, _, _, rfl⟩ | ⟨_, _, _, h⟩⟩
  · exact Nx.refl hi hs
  · exact Nx.refl hi hs
  · have i1 := leavesSt_inv hi hs r 5
    have i2 := h.inv i1.1 i1.2
    have s0 : Sm e (leavesSt e r 5) := by unfold leavesSt; split <;> exact ⟨rfl, rfl, rfl, rfl, rfl, rfl, rfl, rfl, rfl, rfl⟩
    have sm := s0.trans h.sm
    exact ⟨i2.1, i2.2, sm.N, by rw [sm.begun]; omega, by rw [sm.log]; omega, hk.wt hi⟩
theorem QueryR.nx {e e' : Eng} {o : Opr} {rv : Value} {er : Int} (h : QueryR e o rv er e') (hi : EngInv e) (hs : Sync e) : Nx e e' := by
  rcases h with ⟨_, _, _, rfl⟩ | ⟨r, _, _, _, _, rfl⟩ <;> exact Nx.refl hi hs
theorem TickOne.inv {e e' : Eng} {u : Nat} (h : TickOne e u e') (hi : EngInv e) (hs : Sync e) (hu : u < e.N) : EngInv e' ∧ Sync e' ∧ e'.N = e.N ∧ e'.begun = e.begun ∧ e'.log.length ≤ e.log.length + 1 := by
  rcases h with ⟨h2, q, hq, h⟩ | ⟨h4, rfl⟩ | ⟨_, _, rfl⟩
  · have i1 := endsSt_inv hi (kind := 5) hq
    have i2 := h.inv i1 (show Sync (endsSt e 5 u q) from hs) hu h2
    have sm := h.sm
    exact ⟨i2.1, i2.2, sm.N, sm.begun, by rw [sm.log]; show (e.log ++ [evOf e 5 u]).length ≤ _; simp⟩
  · exact ⟨hi.setLife u _ ((hi.life u hu).step 4 1 (by omega) (by omega)), hs, rfl, rfl, by show e.log.length ≤ _; omega⟩
  · exact ⟨hi, hs, rfl, rfl, by omega⟩
theorem TickFold.inv {e e' : Eng} {us : List Nat} (h : TickFold e us e') : EngInv e → Sync e → (∀ u, u ∈ us → u < e.N) → EngInv e' ∧ Sync e' ∧ e'.N = e.N ∧ e'.begun = e.begun ∧ e'.log.length ≤ e.log.length + us.length := by
  induction h with
  | nil => exact fun hi hs _ => ⟨hi, hs, rfl, rfl, by simp⟩
  | snoc h k ih =>
    intro hi hs hu
    obtain ⟨i1, i2, i3, i4, i5⟩ := ih hi hs (fun u h => hu u (List.mem_append_left _ h))
    obtain ⟨j1, j2, j3, j4, j5⟩ := k.inv i1 i2 (by rw [i3]; exact hu _ (by simp))
    exact ⟨j1, j2, j3.trans i3, j4.trans i4, by rw [List.length_append]; simp; omega⟩
theorem TickR.nx {e e' : Eng} {rv : Value} {er : Int} (h : TickR e rv er e') (hi : EngInv e) (hs : Sync e) : Nx e e' := by
  have hk := h.kp
  rcases h with ⟨_, _, _, rfl⟩ | ⟨hn, _, _, ids, q, hl, _, h⟩
  · exact Nx.refl hi hs
  · have hN := hi.N
    have hid : ∀ x, x ∈ ids → x < e.N := fun x hx => by have := (hl.mem x hx).1; rw [hi.tmN] at this; exact this
    have h12 := nodup_le ids e.N hl.dup hid
    have hnow := hi.now
    have i1 : EngInv { e with now := e.now + 1, tm := q } := { hi with now := (by show 0 ≤ e.now + 1 ∧ e.now + 1 ≤ 1099511627776; omega), tm := hl.inv, tmN := hl.la.trans hi.tmN }
    obtain ⟨j1, j2, j3, j4, j5⟩ := h.inv i1 hs hid
    have j5' : e'.log.length ≤ e.log.length + ids.length := j5
    exact ⟨j1, j2, j3, by rw [j4]; show e.begun ≤ e.begun + 1; omega, by omega, hk.wt hi⟩
theorem NeedsR.inv {e e' : Eng} {t d : Nat} (h : NeedsR e t d e') (hi : EngInv e) (hs : Sync e) (ht : t < e.N) (hd : d < e.N) (hno : (e.gr.T t).testBit d = false) : EngInv e' ∧ Sync e' ∧ e'.N = e.N := by
  obtain ⟨nn, xs, hp, h⟩ := h
  have h1 := edgeE_inv hi ht hd hno nn
  have hs1 : Sync (edgeE e t d nn) := hs
  rcases h with ⟨hne, h⟩ | ⟨h5, rfl⟩ | ⟨h6, h⟩ | ⟨h7, h⟩ | ⟨h5, h⟩
  · have hx : ∀ z, z ∈ xs → ∃ y : Nat, z = (y : Int) ∧ y < (edgeE e t d nn).N := fun z hz => by
      obtain ⟨y, hy, hyn⟩ := hp.ids z hz
      exact ⟨y, hy, by show y < e.N; rw [← hi.gN]; exact hyn⟩
    have h2 := turnAll_inv xs _ h1 hs1 hx
    have h3 := h.inv h2.1 h2.2
    exact ⟨h3.1, h3.2.1, by rw [h3.2.2, turnAll_N]; rfl⟩
  · exact ⟨h1.setL ((hi.life t ht).step 2 1 (by omega) (by omega)), hs1, rfl⟩
  · have h2 := waitE_inv h1 ht
    have h3 := h.inv (h2.setL (h2.life t ht).fall) hs1
    exact ⟨h3.1, h3.2.1, h3.2.2⟩
  · have h3 := h.inv (h1.setL (t := t) (hi.life t ht).turn) hs1
    exact ⟨h3.1, h3.2.1, h3.2.2⟩
  · have h2 : EngInv (setW (waitE (edgeE e t d nn) t) t (d : Int)) := (waitE_inv h1 ht).setWaits _
    rcases h with ⟨_, rfl⟩ | ⟨_, rfl⟩
    · exact ⟨h2, hs1, rfl⟩
    · exact ⟨h2.setL ((h2.life d hd).step 0 1 (by omega) (by omega)), hs1, rfl⟩
def NdR (e : Eng) (t d : Nat) (e' : Eng) : Prop := NeedsR e t d e' ∧ e'.N = e.N ∧ e'.begun = e.begun ∧ e'.log = e.log
theorem turnAll_sm (xs : List Int) : ∀ e : Eng, (turnAll e xs).log = e.log ∧ (turnAll e xs).begun = e.begun := by
  induction xs with
  | nil => exact fun e => ⟨rfl, rfl⟩
  | cons z xs ih => exact fun e => ih (turnE e z.toNat)
theorem Settled.sm {e e' : Eng} (h : Settled e e') : Sm e e' := by
  obtain ⟨e1, h1, h2⟩ := h
  exact h1.sm.trans h2.sm
theorem Settles.sm {e e' : Eng} {xs : List Int} (h : Settles e xs e') : Sm e e' := by
  induction h with
  | nil => exact Sm.refl _
  | snoc z h hf ho ih => exact ih.trans (hf.sm.trans ho.sm)
theorem NeedsR.nd {e e' : Eng} {t d : Nat} (h : NeedsR e t d e') : NdR e t d e' := by
  refine ⟨h, ?_⟩
  obtain ⟨nn, xs, hp, h⟩ := h
  rcases h with ⟨hne, h⟩ | ⟨h5, rfl⟩ | ⟨h6, h⟩ | ⟨h7, h⟩ | ⟨h5, ⟨_, rfl⟩ | ⟨_, rfl⟩⟩
  · have sm := h.sm
    have k := turnAll_sm xs (edgeE e t d nn)
    exact ⟨sm.N.trans (turnAll_N _ _), sm.begun.trans k.2, sm.log.trans k.1⟩
  · exact ⟨rfl, rfl, rfl⟩
  · exact ⟨h.sm.N, h.sm.begun, h.sm.log⟩
  · exact ⟨h.sm.N, h.sm.begun, h.sm.log⟩
  · exact ⟨rfl, rfl, rfl⟩
  · exact ⟨rfl, rfl, rfl⟩
theorem AnsR.nx {e e' : Eng} {o : Opr} {rv : Value} {er : Int} (h : AnsR NdR e o rv er e') (hi : EngInv e) (hs : Sync e) : Nx e e' := by
  rcases h with ⟨_, _, _, rfl⟩ | ⟨t, _, _, ht, ⟨_, _, _, rfl⟩ | ⟨h2, _, ⟨_, _, _, rfl⟩ | ⟨⟨q, hq, h⟩, _, _⟩⟩⟩
  · exact Nx.refl hi hs
  · exact Nx.refl hi hs
  · exact Nx.refl hi hs
  · have hlen : ∀ k : Int, (endsSt e k t q).log.length = e.log.length + 1 := fun k => by show (e.log ++ [evOf e k t]).length = _; simp
    rcases h with ⟨_, e2, hf, ho⟩ | ⟨_, h⟩ | ⟨_, y, _, hy, ⟨_, h⟩ | ⟨hno, h⟩⟩
    · have i1 := endsSt_inv hi (kind := 2) hq
      have i2 : EngInv (endE (endsSt e 2 t q) t) := i1.setLife t _ ((hi.life t ht).step 2 5 (by omega) (by omega))
      have i3 := hf.inv i2 (show Sync (endE (endsSt e 2 t q) t) from hs)
      have i4 := ho.inv i3.1 i3.2.1
      have sm := hf.sm.trans ho.sm
      exact ⟨i4.1, i4.2, sm.N, by rw [sm.begun]; show e.begun ≤ e.begun + 1; omega, by rw [sm.log]; show (endsSt e 2 t q).log.length ≤ _; rw [hlen]; omega, ((Kp.end_ e t q).trans (hf.kp.trans ho.kp)).wt hi⟩
    · have i1 := endsSt_inv hi (kind := 3) hq
      have i2 := h.inv i1 (show Sync (endsSt e 3 t q) from hs) ht h2
      have sm := h.sm
      exact ⟨i2.1, i2.2, sm.N, by rw [sm.begun]; show e.begun ≤ e.begun + 1; omega, by rw [sm.log, hlen]; omega, ((Kp.ends e 3 t q).trans h.kp).wt hi⟩
    · have i1 := endsSt_inv hi (kind := 4) hq
      have i2 := h.inv i1 (show Sync (endsSt e 4 t q) from hs) ht h2
      have sm := h.sm
      exact ⟨i2.1, i2.2, sm.N, by rw [sm.begun]; show e.begun ≤ e.begun + 1; omega, by rw [sm.log, hlen]; omega, ((Kp.ends e 4 t q).trans h.kp).wt hi⟩
    · have i1 := endsSt_inv hi (kind := 4) hq
      obtain ⟨hn, n1, n2, n3⟩ := h
      have i2 := hn.inv i1 (show Sync (endsSt e 4 t q) from hs) ht hy hno
      refine ⟨i2.1, i2.2.1, n1, by rw [n2]; show e.begun ≤ e.begun + 1; omega, by rw [n3, hlen]; omega, fun hw => ?_⟩
      exact hn.wt i1.gr i1.gN ht hy hno h2 ((Kp.ends e 4 t q).wt hi hw)
theorem FitsV.nx {e e1 : Eng} {l ys : List Nat} (h : FitsV e l e1 ys) (hi : EngInv e) (hs : Sync e) : EngInv e1 ∧ Sync e1 ∧ e1.N = e.N ∧ e1.begun = e.begun ∧ e1.log.length ≤ e.log.length + 1 ∧ Kp e e1 ∧ e1.tu = e.tu ∧ e1.ad = e.ad := by
  rcases h with ⟨rfl, _⟩ | ⟨y, q, hy, hq, rfl, _⟩
  · exact ⟨hi, hs, rfl, rfl, by omega, Kp.refl _, rfl, rfl⟩
  · exact ⟨stopE_inv hi hy hq, hs, rfl, rfl, by show (e.log ++ [evOf e 6 y]).length ≤ _; simp, Kp.stop e y q, rfl, rfl⟩
def FitsW (e : Eng) (l : List Nat) (e1 : Eng) (ys : List Nat) : Prop := FitsV e l e1 ys ∧ (∀ x, x ∈ ys → x < e.N) ∧ ys.length ≤ 12
theorem DispR.nx {e e' : Eng} {rv : Value} {er : Int} (h : DispR (FitsW e) e rv er e') (hi : EngInv e) (hs : Sync e) : Nx e e' := by
  obtain ⟨b, l, _, ⟨_, _, _, rfl⟩ | ⟨_, ⟨h, _⟩, _, _⟩ | ⟨_, e1, ys, ⟨h, hys, _⟩, _, ⟨_, _, _, rfl⟩ | ⟨hc, t1, hm, hct, k, hk, hko, h2⟩⟩⟩ := h
  · exact Nx.refl hi hs
  · obtain ⟨i1, i2, i3, i4, i5, i6, _, _⟩ := h.nx hi hs
    exact ⟨i1, i2, i3, by omega, by omega, i6.wt hi⟩
  · obtain ⟨i1, i2, i3, i4, i5, i6, _, _⟩ := h.nx hi hs
    exact ⟨i1, i2, i3, by omega, by omega, i6.wt hi⟩
  · obtain ⟨i1, i2, i3, i4, i5, i6, i7, i8⟩ := h.nx hi hs
    have hco := costs_ok e.tu.l (dWs e ys)
    obtain ⟨j, hj, _⟩ := hco.some hc
    have hne : e.tu.l ≠ [] := fun h => by rw [h] at hj; exact absurd hj (Nat.not_lt_zero _)
    obtain ⟨m1, m2, m3, m4⟩ := hm.same hi.tu hne hco.bd
    have hti := take_inv m1 hct
    obtain ⟨tk, htk⟩ : ∃ tk, tookT t1 (cAt (costsF e.tu.l (dWs e ys)).1 t1) = tk := ⟨_, rfl⟩
    have hti2 : TurInv tk := htk ▸ hti
    have hids : tk.l.map Mb.id = e.tu.l.map Mb.id := by
      rw [← htk]
      unfold tookT
      apply List.ext_getElem
      · simp [m2]
      · intro i h1 h2
        rw [List.length_map] at h2
        have h3 : i < t1.l.length := by omega
        have h4 := (m4 i h2).2
        unfold mbs at h4
        rw [List.getD_eq_getElem?_getD, List.getElem?_eq_getElem h3, List.getD_eq_getElem?_getD, List.getElem?_eq_getElem h2] at h4
        have h4' : (t1.l[i]).id = (e.tu.l[i]).id := h4
        rw [List.getElem_map, List.getElem_map, List.getElem_set]
        by_cases hii : t1.at_.toNat = i
        · rw [if_pos hii]
          show (mAt t1).id = _
          unfold mAt mbs
          rw [hii, List.getD_eq_getElem?_getD, List.getElem?_eq_getElem h3]
          exact h4'
        · rw [if_neg hii]; exact h4'
    rw [htk] at h2
    have k1 : EngInv { e1 with tu := tk } := i1.setTu hti2
    have k2 : Sync { e1 with tu := tk } := by
      show tk.l.map Mb.id = e1.ad.l1
      rw [hids, i8]
      exact hs
    have k3 : Kp e1 { e1 with tu := tk } := (Kp.quiet rfl rfl (no_more rfl) rfl rfl)
    have htN : (dOwn e ys).getD k 0 < e.N := by
      have h1 := getD_mem (dOwn e ys) k hko
      unfold dOwn at h1
      exact hys _ (own_mem h1)
    obtain ⟨t, htt⟩ : ∃ t, (dOwn e ys).getD k 0 = t := ⟨_, rfl⟩
    rw [htt] at h2 htN
    have hkp := (i6.trans k3).trans h2.kp
    rcases h2 with ⟨_, _, _, rfl⟩ | ⟨h0, _, _, q, hq, rfl⟩
    · exact ⟨k1, k2, i3, by show e1.begun ≤ _; omega, by show e1.log.length ≤ _; omega, hkp.wt hi⟩
    · have htN1 : t < ({ e1 with tu := tk } : Eng).N := by show t < e1.N; omega
      exact ⟨startsSt_inv k1 htN1 h0 hq.inv (hq.la.trans k1.tmN), k2, i3, by show e1.begun + 1 ≤ _; omega, by show (e1.log ++ [_]).length ≤ _; rw [List.length_append]; simp; omega, hkp.wt hi⟩
end Go.Proofs.YtbpoapfkeinjnaaGreatDoor.Ld
namespace Go.Proofs.YtbpoapfkeinjnaaGreatDoor.Ld
open Go.RowKit Go.Proofs.YtbpoapfkeinjnaaGreatDoorW.PrintWords Go.Proofs.YtbpoapfkeinjnaaGreatDoorW.PrintLast Go.Proofs.YtbpoapfkeinjnaaGreatDoorW.PrintMore
set_option linter.unusedVariables false
set_option linter.unusedSimpArgs false
theorem FitsPost.mono {S : Nat → Prop} {g : Nat} {K : EK} {R R' : Eng → List Nat → Prop} {w w' : World} {en : Ending} (h : FitsPost S g K R w en w') (hr : ∀ e' ys, R e' ys → R' e' ys) : FitsPost S g K R' w en w' := by
  rcases h with ⟨e', h1, h2, h3⟩ | ⟨B, c, ys, e', h1, h2, h3, h4, h5⟩
  · exact .inl ⟨e', h1, hr _ _ h2, h3⟩
  · exact .inr ⟨B, c, ys, e', h1, h2, h3, hr _ _ h4, h5⟩
theorem FitsV.w {e e' : Eng} {l ys : List Nat} (h : FitsV e l e' ys) (hl : l ≠ []) (h12 : l.length ≤ 12) (hN : ∀ x, x ∈ l → x < e.N) : FitsW e l e' ys := by
  refine ⟨h, ?_⟩
  have h0 : 0 < l.length := List.length_pos_iff.2 hl
  rcases h with ⟨_, rfl | rfl⟩ | ⟨_, _, _, _, _, rfl⟩
  · exact ⟨hN, h12⟩
  · exact ⟨fun x hx => (by cases hx), by simp⟩
  · refine ⟨fun x hx => ?_, by simp⟩
    rw [List.mem_singleton] at hx
    rw [hx]
    exact hN _ (getD_mem l 0 h0)
theorem fits_calls (S : Nat → Prop) (g : Nat) (K : EK) (e : Eng) (xs : List Nat) (n cp np cq : Nat) (B P : Option Addr) (pr : Int) (w : World) (hi : EngInv e) (hl : e.log.length ≤ 1000000) (H : EngAt S w g K e) (hx : xs ≠ []) (hn : xs.length = n) (hn2 : n ≤ 12) (hall : ∀ x, x ∈ xs → x < e.N) (hr : RI w B (nats xs)) (hnp : np = e.N) (hp : ∃ prs, RI w P prs ∧ prs.length = np) :
    Calls Tryz.prog 54 #[.pointer (some ⟨g, 0, none⟩), .slice B n cp, .int .i64 pr, .slice P np cq] w (FitsPost S g K (FitsW e xs) w) := by
  obtain ⟨prs, hp1, hp2⟩ := hp
  by_cases hs : slots e.led = 0
  · exact (fits_none S g K e xs n cp np cq B P pr prs w H hi hl hs hx hn hn2 hall hr hnp hp1 hp2).mono fun en w' h => h.mono fun e' ys h => h.w hx (by omega) hall
  · have h0 : 0 < slots e.led := by unfold slots at hs ⊢; omega
    exact (fits_some S g K e xs n cp np cq B P pr w H hi h0 hx hn hn2 hall hr).mono fun en w' h => h.mono fun e' ys h => (show FitsV e xs e' ys from .inl ⟨h.1, .inl h.2⟩).w hx (by omega) hall
theorem op_do (S : Nat → Prop) (bm g : Nat) (K : EK) (e : Eng) (o : Opr) (w : World) (H : EngAt S w g K e) (hg : Glb bm S w) (hk : (Lit.int .i64 o.k).wf = true) (hi : EngInv e) (hs : Sync e) (hb : e.begun ≤ 900000) (hl : e.log.length ≤ 900000) :
    Calls Tryz.prog 8 (opArgs g o) w (OpPost (fun _ _ e' => Nx e e') S g w) := by
  refine do_of S bm g K e o w H hg hk (fun _ _ e' => Nx e e') (fun _ => Nx.refl hi hs) (fun hn w' S' H' hg' => ?_)
  have hc : mN o.k = 18 ∨ mN o.k = 19 ∨ mN o.k = 20 ∨ mN o.k = 21 ∨ mN o.k = 22 ∨ mN o.k = 23 := by
    unfold mN at hn ⊢
    repeat' split
    all_goals first | omega | (exfalso; simp_all)
  unfold opArgs
  rcases hc with h | h | h | h | h | h
  · rw [h]
    exact (submit_calls S' bm g K e o w' H' hi hs hg').mono fun en w2 ⟨a, b, c, d, f, er, e', hr, he, K', ht⟩ => ⟨a, b, c, d, f, er, e', K', hr.nx hi hs, he, ht⟩
  · rw [h]
    exact (cancel_calls S' bm g K e o w' H' hi hs hg').mono fun en w2 ⟨a, b, c, d, f, er, e', hr, he, ht⟩ => ⟨a, b, c, d, f, er, e', K, hr.nx hi hs, he, ht⟩
  · rw [h]
    exact (tick_calls S' bm g K e o w' H' hi hs hg' hl).mono fun en w2 ⟨a, b, c, d, f, er, e', hr, he, ht⟩ => ⟨a, b, c, d, f, er, e', K, hr.nx hi hs, he, ht⟩
  · rw [h]
    refine (dispatch_of S' bm g K e _ _ _ _ _ w' H' hi hs hg' (FitsW e) (fun w2 S2 l n cp np cq B P pr h1 h2 h3 h4 h5 h6 h7 h8 => fits_calls S2 g K e l n cp np cq B P pr w2 hi (by omega) h1 h2 h3 h4 h5 h6 h7 h8) (fun l e' ys hr => ?_)).mono fun en w2 ⟨a, b, c, d, f, er, e', hr, he, ht⟩ => ⟨a, b, c, d, f, er, e', K, hr.nx hi hs, he, ht⟩
    obtain ⟨i1, i2, i3, i4, i5, i6, i7, i8⟩ := hr.1.nx hi hs
    refine ⟨i1, i3, i6.gr, ?_, i7, by omega, by omega, hr.2.1, hr.2.2⟩
    rcases hr.1 with ⟨rfl, _⟩ | ⟨_, _, _, _, rfl, _⟩ <;> rfl
  · rw [h]
    exact (answer_of S' bm g K e o w' H' hi hs hg' hl NdR (fun w2 S2 e1 t y _ h1 h2 h3 h4 h5 h6 h7 h8 _ => (needs_calls S2 bm g K e1 t y w2 h1 h2 h3 h4 h5 h6 h7 h8).mono fun en w3 ⟨q1, e', q2, q3⟩ => ⟨q1, e', q2.nd, q3⟩) (fun e1 t y e' h => h.2.1)).mono fun en w2 ⟨a, b, c, d, f, er, e', hr, he, ht⟩ => ⟨a, b, c, d, f, er, e', K, hr.nx hi hs, he, ht⟩
  · rw [h]
    exact (query_calls S' bm g K e o w' H' hi hs hg').mono fun en w2 ⟨a, b, c, d, f, er, e', hr, he, ht⟩ => ⟨a, b, c, d, f, er, e', K, hr.nx hi hs, he, ht⟩
theorem op_lit (S : Nat → Prop) (bm g : Nat) (K : EK) (e : Eng) (k a b c d : Int) (w : World) (H : EngAt S w g K e) (hg : Glb bm S w) (hk : (Lit.int .i64 k).wf = true) (hi : EngInv e) (hs : Sync e) (hb : e.begun ≤ 900000) (hl : e.log.length ≤ 900000) :
    Calls Tryz.prog 8 #[.pointer (some ⟨g, 0, none⟩), .agg #[.int .i64 k, .int .i64 a, .int .i64 b, .int .i64 c, .int .i64 d]] w (OpPost (fun _ _ e' => Nx e e') S g w) :=
  op_do S bm g K e ⟨k, a, b, c, d⟩ w H hg hk hi hs hb hl
end Go.Proofs.YtbpoapfkeinjnaaGreatDoor.Ld
namespace Go.Proofs.YtbpoapfkeinjnaaGreatDoor.Ld
open Go.RowKit Go.Proofs.YtbpoapfkeinjnaaGreatDoorW.PrintWords Go.Proofs.YtbpoapfkeinjnaaGreatDoorW.PrintLast Go.Proofs.YtbpoapfkeinjnaaGreatDoorW.PrintMore
set_option linter.unusedVariables false
set_option linter.unusedSimpArgs false
set_option linter.unnecessarySimpa false
def cfgWide (c : Cf) : Cf := ⟨1000, cutF c.slots 1 4, 16, cutF c.queue 0 4, cutF c.tries 1 3, cutF c.preempts 0 2, cutF c.timeout 1 4, cutF c.backoff 1 3, cutF c.most 1 6, cutF c.quantum 1 30⟩
theorem cfgWide_zero : cfgWide ⟨0, 0, 0, 0, 0, 0, 0, 0, 0, 0⟩ = cfgW := by
  unfold cfgWide cfgW
  simp only [cutF_zero _ _ (show (1 : Int) ≤ 4 by decide), cutF_zero _ _ (show (0 : Int) ≤ 4 by decide), cutF_zero _ _ (show (1 : Int) ≤ 3 by decide), cutF_zero _ _ (show (0 : Int) ≤ 2 by decide), cutF_zero _ _ (show (1 : Int) ≤ 6 by decide), cutF_zero _ _ (show (1 : Int) ≤ 30 by decide)]
set_option maxHeartbeats 8000000 in
set_option maxRecDepth 100000 in
theorem config_calls (c : Cf) (w : World) : Calls Tryz.prog 12 #[.agg (encCf c), .bool true] w fun e w' => e = .returned (.agg (encCf (cfgWide c))) ∧ Below w.heap.size w w' := by
  obtain ⟨w0, hw0⟩ : ∃ w0, w0 = (w.alloc (.cells (encCf c) 26)).alloc (.cells (encCf ⟨0, 0, 0, 0, 0, 0, 0, 0, 0, 0⟩) 26) := ⟨_, rfl⟩
  have HB0 := Aside0.mk (show Below w.heap.size w w0 from hw0 ▸ below_alloc (below_alloc (Below.refl _ w) _) _)
  have HX0 := Aside0.mk (show w0.heap[w.heap.size]? = some (.cells (encCf c) 26 (0, 0)) from hw0 ▸ blk_below (heap_alloc_new w (.cells (encCf c) 26)) (below_alloc (Below.refl _ _) _))
  have HZ0 := Aside0.mk (show w0.heap[(w.alloc (.cells (encCf c) 26)).heap.size]? = some (.cells (encCf ⟨0, 0, 0, 0, 0, 0, 0, 0, 0, 0⟩) 26 (0, 0)) from hw0 ▸ heap_alloc_new _ _)
  have HW0 := Aside0.mk (show w0 = (w.alloc (.cells #[.int .i64 c.budget, .int .i64 c.slots, .int .i64 c.active, .int .i64 c.queue, .int .i64 c.tries, .int .i64 c.preempts, .int .i64 c.timeout, .int .i64 c.backoff, .int .i64 c.most, .int .i64 c.quantum] 26)).alloc (.cells #[.int .i64 0, .int .i64 0, .int .i64 0, .int .i64 0, .int .i64 0, .int .i64 0, .int .i64 0, .int .i64 0, .int .i64 0, .int .i64 0] 26) from hw0)
  clear hw0
  unfold encCf
  go_enter Tryz.func12, Tryz.ntmps12
  go_upto_region 1 with (fail)
  rw [← HW0.out]
  obtain ⟨B, hB⟩ : ∃ B, w.heap.size = B := ⟨_, rfl⟩
  obtain ⟨B4, hB4⟩ : ∃ B4, (w.alloc (.cells (encCf c) 26)).heap.size = B4 := ⟨_, rfl⟩
  have hs : B4 = B + 1 := by rw [← hB4, ← hB]; exact size_alloc _ _
  rw [hB4] at HZ0
  rw [hB] at HX0 ⊢
  have HBB := Aside0.mk hB
  clear hB hB4
  subst hs
  have g0 := (blk_cell HX0.out 0).trans (show _ = some (Value.int .i64 c.budget) from rfl)
  have g1 := (blk_cell HX0.out 1).trans (show _ = some (Value.int .i64 c.slots) from rfl)
  have g2 := (blk_cell HX0.out 2).trans (show _ = some (Value.int .i64 c.active) from rfl)
  have g3 := (blk_cell HX0.out 3).trans (show _ = some (Value.int .i64 c.queue) from rfl)
  have g4 := (blk_cell HX0.out 4).trans (show _ = some (Value.int .i64 c.tries) from rfl)
  have g5 := (blk_cell HX0.out 5).trans (show _ = some (Value.int .i64 c.preempts) from rfl)
  have g6 := (blk_cell HX0.out 6).trans (show _ = some (Value.int .i64 c.timeout) from rfl)
  have g7 := (blk_cell HX0.out 7).trans (show _ = some (Value.int .i64 c.backoff) from rfl)
  have g8 := (blk_cell HX0.out 8).trans (show _ = some (Value.int .i64 c.most) from rfl)
  have g9 := (blk_cell HX0.out 9).trans (show _ = some (Value.int .i64 c.quantum) from rfl)
  obtain ⟨b5, hb5⟩ : ∃ b5, w0.heap.size = b5 := ⟨_, rfl⟩
  go_cut [5] (fun v5 wc => v5 = .pointer (some ⟨b5, 0, none⟩) ∧ Aside0 (Below w0.heap.size w0 wc ∧ wc.heap[b5]? = some (.cells #[.int .i64 (cutF c.budget 12 40), .int .i64 (cutF c.slots 1 4), .int .i64 (cutF c.active 1 5), .int .i64 (cutF c.queue 0 4), .int .i64 (cutF c.tries 1 3), .int .i64 (cutF c.preempts 0 2), .int .i64 (cutF c.timeout 1 4), .int .i64 (cutF c.backoff 1 3), .int .i64 (cutF c.most 1 6), .int .i64 (cutF c.quantum 1 30)] 26 (0, 0))))
  case first =>
    go_region_held3 (fun w' => w'.cell? ⟨B, 0, none⟩ = some (.int .i64 c.budget) ∧ w'.cell? ⟨B, 1, none⟩ = some (.int .i64 c.slots) ∧ w'.cell? ⟨B, 2, none⟩ = some (.int .i64 c.active) ∧ w'.cell? ⟨B, 3, none⟩ = some (.int .i64 c.queue) ∧ w'.cell? ⟨B, 4, none⟩ = some (.int .i64 c.tries) ∧ w'.cell? ⟨B, 5, none⟩ = some (.int .i64 c.preempts) ∧ w'.cell? ⟨B, 6, none⟩ = some (.int .i64 c.timeout) ∧ w'.cell? ⟨B, 7, none⟩ = some (.int .i64 c.backoff) ∧ w'.cell? ⟨B, 8, none⟩ = some (.int .i64 c.most) ∧ w'.cell? ⟨B, 9, none⟩ = some (.int .i64 c.quantum)) (go_keep) (first | (go_at_call 6; (with_reducible refine (lcut_calls _ _ _ ?c1 ?c2 ?c3 _).mono ?_); (case c1 => decide); (case c2 => decide); (case c3 => decide); rintro e w1 ⟨rfl, rfl⟩))
    all_goals
      go_wp2
      go_meet
      exact ⟨by first | rfl | rw [hb5], ⟨Below.drew (below_alloc (Below.refl _ w0) _), by rw [← hb5]; exact heap_alloc_new w0 _⟩⟩
  case rest =>
    clear g0 g1 g2 g3 g4 g5 g6 g7 g8 g9
    obtain ⟨rfl, hA⟩ := hcut
    obtain ⟨hb3, hx3⟩ := hA.out
    have HB3 := Aside0.mk hb3
    have HX3 := Aside0.mk hx3
    have HZ3 := Aside0.mk (blk_below HZ0.out HB3.out)
    have hlt : B + 1 < b5 := by rw [← hb5]; exact blk_lt HZ0.out
    have r1 : (b5 = B + 1) = False := eq_false (by omega)
    have r2 : (B + 1 = b5) = False := eq_false (by omega)
    clear hA hb3 hx3
    have q0 := (blk_cell HX3.out 0).trans (show _ = some (Value.int .i64 (cutF c.budget 12 40)) from rfl)
    have z0 := (blk_cell HZ3.out 0).trans (show _ = some (Value.int .i64 0) from rfl)
    have q1 := (blk_cell HX3.out 1).trans (show _ = some (Value.int .i64 (cutF c.slots 1 4)) from rfl)
    have z1 := (blk_cell HZ3.out 1).trans (show _ = some (Value.int .i64 0) from rfl)
    have q2 := (blk_cell HX3.out 2).trans (show _ = some (Value.int .i64 (cutF c.active 1 5)) from rfl)
    have z2 := (blk_cell HZ3.out 2).trans (show _ = some (Value.int .i64 0) from rfl)
    have q3 := (blk_cell HX3.out 3).trans (show _ = some (Value.int .i64 (cutF c.queue 0 4)) from rfl)
    have z3 := (blk_cell HZ3.out 3).trans (show _ = some (Value.int .i64 0) from rfl)
    have q4 := (blk_cell HX3.out 4).trans (show _ = some (Value.int .i64 (cutF c.tries 1 3)) from rfl)
    have z4 := (blk_cell HZ3.out 4).trans (show _ = some (Value.int .i64 0) from rfl)
    have q5 := (blk_cell HX3.out 5).trans (show _ = some (Value.int .i64 (cutF c.preempts 0 2)) from rfl)
    have z5 := (blk_cell HZ3.out 5).trans (show _ = some (Value.int .i64 0) from rfl)
    have q6 := (blk_cell HX3.out 6).trans (show _ = some (Value.int .i64 (cutF c.timeout 1 4)) from rfl)
    have z6 := (blk_cell HZ3.out 6).trans (show _ = some (Value.int .i64 0) from rfl)
    have q7 := (blk_cell HX3.out 7).trans (show _ = some (Value.int .i64 (cutF c.backoff 1 3)) from rfl)
    have z7 := (blk_cell HZ3.out 7).trans (show _ = some (Value.int .i64 0) from rfl)
    have q8 := (blk_cell HX3.out 8).trans (show _ = some (Value.int .i64 (cutF c.most 1 6)) from rfl)
    have z8 := (blk_cell HZ3.out 8).trans (show _ = some (Value.int .i64 0) from rfl)
    have q9 := (blk_cell HX3.out 9).trans (show _ = some (Value.int .i64 (cutF c.quantum 1 30)) from rfl)
    have z9 := (blk_cell HZ3.out 9).trans (show _ = some (Value.int .i64 0) from rfl)
    have fq := fun k => blk_frozen HX3.out k
    have fz := fun k => blk_frozen HZ3.out k
    have hB3 := Aside0.mk (below_step HB0.out HB3.out)
    have HL := Aside0.mk (And.intro HBB.out hlt)
    clear hb5 hlt
    go_wp2
    obtain ⟨wd, hwd⟩ : ∃ wd, wd = (wc.setCell ⟨b5, 0, none⟩ (.int .i64 1000)).setCell ⟨b5, 2, none⟩ (.int .i64 16) := ⟨_, rfl⟩
    have hcd : Chg (fun k => k = b5) wc wd := hwd ▸ (((Chg.refl (fun k => k = b5) wc).set rfl _ _).set rfl _ _)
    have p0 : wd.heap[B + 1]? = some (.cells #[(.int .i64 0), (.int .i64 0), (.int .i64 0), (.int .i64 0), (.int .i64 0), (.int .i64 0), (.int .i64 0), (.int .i64 0), (.int .i64 0), (.int .i64 0)] 26 (0, 0)) := (hcd.block (B + 1) (blk_lt HZ3.out) (fun e => by have := HL.out.2; omega)).trans HZ3.out
    have k0 : Chg (fun k => k = B + 1) wd wd := Chg.refl _ _
    rw [← hwd]
    clear hwd q0 q1 q2 q3 q4 q5 q6 q7 q8 q9 z0 z1 z2 z3 z4 z5 z6 z7 z8 z9 fq fz
    obtain ⟨x0, hx0⟩ : ∃ x0, x0 = wd.setCell ⟨B + 1, 0, none⟩ (.int .i64 1000) := ⟨_, rfl⟩
    have p1 : x0.heap[B + 1]? = some (.cells #[(.int .i64 1000), (.int .i64 0), (.int .i64 0), (.int .i64 0), (.int .i64 0), (.int .i64 0), (.int .i64 0), (.int .i64 0), (.int .i64 0), (.int .i64 0)] 26 (0, 0)) := hx0 ▸ blk_put p0 0 (.int .i64 1000) rfl
    have k1 : Chg (fun k => k = B + 1) wd x0 := hx0 ▸ (k0.set rfl _ _)
    rw [← hx0]
    clear p0 k0 hx0
    obtain ⟨x1, hx1⟩ : ∃ x1, x1 = x0.setCell ⟨B + 1, 1, none⟩ (.int .i64 (cutF c.slots 1 4)) := ⟨_, rfl⟩
    have p2 : x1.heap[B + 1]? = some (.cells #[(.int .i64 1000), (.int .i64 (cutF c.slots 1 4)), (.int .i64 0), (.int .i64 0), (.int .i64 0), (.int .i64 0), (.int .i64 0), (.int .i64 0), (.int .i64 0), (.int .i64 0)] 26 (0, 0)) := hx1 ▸ blk_put p1 1 (.int .i64 (cutF c.slots 1 4)) rfl
    have k2 : Chg (fun k => k = B + 1) wd x1 := hx1 ▸ (k1.set rfl _ _)
    rw [← hx1]
    clear p1 k1 hx1
    obtain ⟨x2, hx2⟩ : ∃ x2, x2 = x1.setCell ⟨B + 1, 2, none⟩ (.int .i64 16) := ⟨_, rfl⟩
    have p3 : x2.heap[B + 1]? = some (.cells #[(.int .i64 1000), (.int .i64 (cutF c.slots 1 4)), (.int .i64 16), (.int .i64 0), (.int .i64 0), (.int .i64 0), (.int .i64 0), (.int .i64 0), (.int .i64 0), (.int .i64 0)] 26 (0, 0)) := hx2 ▸ blk_put p2 2 (.int .i64 16) rfl
    have k3 : Chg (fun k => k = B + 1) wd x2 := hx2 ▸ (k2.set rfl _ _)
    rw [← hx2]
    clear p2 k2 hx2
    obtain ⟨x3, hx3⟩ : ∃ x3, x3 = x2.setCell ⟨B + 1, 3, none⟩ (.int .i64 (cutF c.queue 0 4)) := ⟨_, rfl⟩
    have p4 : x3.heap[B + 1]? = some (.cells #[(.int .i64 1000), (.int .i64 (cutF c.slots 1 4)), (.int .i64 16), (.int .i64 (cutF c.queue 0 4)), (.int .i64 0), (.int .i64 0), (.int .i64 0), (.int .i64 0), (.int .i64 0), (.int .i64 0)] 26 (0, 0)) := hx3 ▸ blk_put p3 3 (.int .i64 (cutF c.queue 0 4)) rfl
    have k4 : Chg (fun k => k = B + 1) wd x3 := hx3 ▸ (k3.set rfl _ _)
    rw [← hx3]
    clear p3 k3 hx3
    obtain ⟨x4, hx4⟩ : ∃ x4, x4 = x3.setCell ⟨B + 1, 4, none⟩ (.int .i64 (cutF c.tries 1 3)) := ⟨_, rfl⟩
    have p5 : x4.heap[B + 1]? = some (.cells #[(.int .i64 1000), (.int .i64 (cutF c.slots 1 4)), (.int .i64 16), (.int .i64 (cutF c.queue 0 4)), (.int .i64 (cutF c.tries 1 3)), (.int .i64 0), (.int .i64 0), (.int .i64 0), (.int .i64 0), (.int .i64 0)] 26 (0, 0)) := hx4 ▸ blk_put p4 4 (.int .i64 (cutF c.tries 1 3)) rfl
    have k5 : Chg (fun k => k = B + 1) wd x4 := hx4 ▸ (k4.set rfl _ _)
    rw [← hx4]
    clear p4 k4 hx4
    obtain ⟨x5, hx5⟩ : ∃ x5, x5 = x4.setCell ⟨B + 1, 5, none⟩ (.int .i64 (cutF c.preempts 0 2)) := ⟨_, rfl⟩
    have p6 : x5.heap[B + 1]? = some (.cells #[(.int .i64 1000), (.int .i64 (cutF c.slots 1 4)), (.int .i64 16), (.int .i64 (cutF c.queue 0 4)), (.int .i64 (cutF c.tries 1 3)), (.int .i64 (cutF c.preempts 0 2)), (.int .i64 0), (.int .i64 0), (.int .i64 0), (.int .i64 0)] 26 (0, 0)) := hx5 ▸ blk_put p5 5 (.int .i64 (cutF c.preempts 0 2)) rfl
    have k6 : Chg (fun k => k = B + 1) wd x5 := hx5 ▸ (k5.set rfl _ _)
    rw [← hx5]
    clear p5 k5 hx5
    obtain ⟨x6, hx6⟩ : ∃ x6, x6 = x5.setCell ⟨B + 1, 6, none⟩ (.int .i64 (cutF c.timeout 1 4)) := ⟨_, rfl⟩
    have p7 : x6.heap[B + 1]? = some (.cells #[(.int .i64 1000), (.int .i64 (cutF c.slots 1 4)), (.int .i64 16), (.int .i64 (cutF c.queue 0 4)), (.int .i64 (cutF c.tries 1 3)), (.int .i64 (cutF c.preempts 0 2)), (.int .i64 (cutF c.timeout 1 4)), (.int .i64 0), (.int .i64 0), (.int .i64 0)] 26 (0, 0)) := hx6 ▸ blk_put p6 6 (.int .i64 (cutF c.timeout 1 4)) rfl
    have k7 : Chg (fun k => k = B + 1) wd x6 := hx6 ▸ (k6.set rfl _ _)
    rw [← hx6]
    clear p6 k6 hx6
    obtain ⟨x7, hx7⟩ : ∃ x7, x7 = x6.setCell ⟨B + 1, 7, none⟩ (.int .i64 (cutF c.backoff 1 3)) := ⟨_, rfl⟩
    have p8 : x7.heap[B + 1]? = some (.cells #[(.int .i64 1000), (.int .i64 (cutF c.slots 1 4)), (.int .i64 16), (.int .i64 (cutF c.queue 0 4)), (.int .i64 (cutF c.tries 1 3)), (.int .i64 (cutF c.preempts 0 2)), (.int .i64 (cutF c.timeout 1 4)), (.int .i64 (cutF c.backoff 1 3)), (.int .i64 0), (.int .i64 0)] 26 (0, 0)) := hx7 ▸ blk_put p7 7 (.int .i64 (cutF c.backoff 1 3)) rfl
    have k8 : Chg (fun k => k = B + 1) wd x7 := hx7 ▸ (k7.set rfl _ _)
    rw [← hx7]
    clear p7 k7 hx7
    obtain ⟨x8, hx8⟩ : ∃ x8, x8 = x7.setCell ⟨B + 1, 8, none⟩ (.int .i64 (cutF c.most 1 6)) := ⟨_, rfl⟩
    have p9 : x8.heap[B + 1]? = some (.cells #[(.int .i64 1000), (.int .i64 (cutF c.slots 1 4)), (.int .i64 16), (.int .i64 (cutF c.queue 0 4)), (.int .i64 (cutF c.tries 1 3)), (.int .i64 (cutF c.preempts 0 2)), (.int .i64 (cutF c.timeout 1 4)), (.int .i64 (cutF c.backoff 1 3)), (.int .i64 (cutF c.most 1 6)), (.int .i64 0)] 26 (0, 0)) := hx8 ▸ blk_put p8 8 (.int .i64 (cutF c.most 1 6)) rfl
    have k9 : Chg (fun k => k = B + 1) wd x8 := hx8 ▸ (k8.set rfl _ _)
    rw [← hx8]
    clear p8 k8 hx8
    obtain ⟨x9, hx9⟩ : ∃ x9, x9 = x8.setCell ⟨B + 1, 9, none⟩ (.int .i64 (cutF c.quantum 1 30)) := ⟨_, rfl⟩
    have p10 : x9.heap[B + 1]? = some (.cells #[(.int .i64 1000), (.int .i64 (cutF c.slots 1 4)), (.int .i64 16), (.int .i64 (cutF c.queue 0 4)), (.int .i64 (cutF c.tries 1 3)), (.int .i64 (cutF c.preempts 0 2)), (.int .i64 (cutF c.timeout 1 4)), (.int .i64 (cutF c.backoff 1 3)), (.int .i64 (cutF c.most 1 6)), (.int .i64 (cutF c.quantum 1 30))] 26 (0, 0)) := hx9 ▸ blk_put p9 9 (.int .i64 (cutF c.quantum 1 30)) rfl
    have k10 : Chg (fun k => k = B + 1) wd x9 := hx9 ▸ (k9.set rfl _ _)
    rw [← hx9]
    clear p9 k9 hx9
    have y0 : x9.cell? ⟨B + 1, 0, none⟩ = some (.int .i64 1000) := (blk_cell p10 0).trans rfl
    have y1 : x9.cell? ⟨B + 1, 1, none⟩ = some (.int .i64 (cutF c.slots 1 4)) := (blk_cell p10 1).trans rfl
    have y2 : x9.cell? ⟨B + 1, 2, none⟩ = some (.int .i64 16) := (blk_cell p10 2).trans rfl
    have y3 : x9.cell? ⟨B + 1, 3, none⟩ = some (.int .i64 (cutF c.queue 0 4)) := (blk_cell p10 3).trans rfl
    have y4 : x9.cell? ⟨B + 1, 4, none⟩ = some (.int .i64 (cutF c.tries 1 3)) := (blk_cell p10 4).trans rfl
    have y5 : x9.cell? ⟨B + 1, 5, none⟩ = some (.int .i64 (cutF c.preempts 0 2)) := (blk_cell p10 5).trans rfl
    have y6 : x9.cell? ⟨B + 1, 6, none⟩ = some (.int .i64 (cutF c.timeout 1 4)) := (blk_cell p10 6).trans rfl
    have y7 : x9.cell? ⟨B + 1, 7, none⟩ = some (.int .i64 (cutF c.backoff 1 3)) := (blk_cell p10 7).trans rfl
    have y8 : x9.cell? ⟨B + 1, 8, none⟩ = some (.int .i64 (cutF c.most 1 6)) := (blk_cell p10 8).trans rfl
    have y9 : x9.cell? ⟨B + 1, 9, none⟩ = some (.int .i64 (cutF c.quantum 1 30)) := (blk_cell p10 9).trans rfl
    clear p10
    refine bodyPost_ret (v := .agg (encCf (cfgWide c))) (by simp [results, Tryz.results12, go_sem, encCf, cfgWide, y0, y1, y2, y3, y4, y5, y6, y7, y8, y9]) rfl ?_
    have h1 := HL.out.1
    have h2 := HL.out.2
    exact ⟨rfl, Chg.to_below (Chg.to_below hB3.out hcd (fun k hk => by rw [hk]; omega)) k10 (fun k hk => by rw [hk]; omega)⟩
end Go.Proofs.YtbpoapfkeinjnaaGreatDoor.Ld
namespace Go.Proofs.YtbpoapfkeinjnaaGreatDoor.Ld
open Go.RowKit Go.Proofs.YtbpoapfkeinjnaaGreatDoorW.PrintWords Go.Proofs.YtbpoapfkeinjnaaGreatDoorW.PrintLast Go.Proofs.YtbpoapfkeinjnaaGreatDoorW.PrintMore
set_option linter.unusedVariables false
set_option linter.unusedSimpArgs false
structure LI (N i : Nat) (e : Eng) : Prop where
  inv : EngInv e
  sync : Sync e
  wt : Wtt e fun _ => False
  N : e.N = N
  begun : e.begun ≤ i
  log : e.log.length ≤ 12 * i
theorem LI.next {N i : Nat} {e e' : Eng} (h : LI N i e) (k : Nx e e') : LI N (i + 1) e' :=
  ⟨k.inv, k.sync, k.wt h.wt, k.N.trans h.N, by have := k.begun; have := h.begun; omega, by have := k.log; have := h.log; omega⟩
theorem cfgWide_ok (c : Cf) : CfOk (cfgWide c) := by
  have h1 := cutF_in c.slots 1 4 (by decide)
  have h2 := cutF_in c.queue 0 4 (by decide)
  have h3 := cutF_in c.tries 1 3 (by decide)
  have h4 := cutF_in c.preempts 0 2 (by decide)
  have h5 := cutF_in c.timeout 1 4 (by decide)
  have h6 := cutF_in c.backoff 1 3 (by decide)
  have h7 := cutF_in c.most 1 6 (by decide)
  have h8 := cutF_in c.quantum 1 30 (by decide)
  refine ⟨?_, ?_, ?_, ?_, ?_, ?_, ?_, ?_, ?_, ?_⟩ <;> (unfold cfgWide; simp only; omega)
theorem LI.start (c : Cf) (N : Nat) (hN : 1 ≤ N ∧ N ≤ 8) (mem cost : Nat → Int) (hm : ∀ i, 1 ≤ mem i ∧ mem i ≤ 12 ∧ 1 ≤ cost i ∧ cost i ≤ 30) : LI N 0 (eng0 (cfgWide c) N mem cost) where
  inv := eng0_inv _ (cfgWide_ok c) N ⟨hN.1, by omega⟩ mem cost (fun i _ => by have := hm i; omega) ⟨12, by decide, fun i _ => (hm i).2.1, by have := cutF_in c.slots 1 4 (by decide); show (cutF c.slots 1 4 + 1) * 12 ≤ 1000; omega⟩
  sync := rfl
  wt := ⟨fun t ht _ d hd => (by cases hd), fun t ht h5 => by
    have h0 : ((eng0 (cfgWide c) N mem cost).life t).state = 0 := rfl
    omega⟩
  N := rfl
  begun := Int.le_refl _
  log := Nat.le_refl _
def LastB (l : List Ev) (t : Int) (j : Nat) (b : Int) : Prop := -1 ≤ b ∧ b < j ∧ ∀ (i : Nat) (x : Ev), i < j → l[i]? = some x → x.kind = 1 → x.task = t → (i : Int) ≤ b
theorem LastB.zero (l : List Ev) (t : Int) : LastB l t 0 (-1) := ⟨Int.le_refl _, by omega, fun i x hi => absurd hi (Nat.not_lt_zero _)⟩
theorem LastB.hit {l : List Ev} {t : Int} {j : Nat} {b : Int} (h : LastB l t j b) : LastB l t (j + 1) (j : Int) := ⟨by omega, by omega, fun i x hi _ _ _ => by omega⟩
theorem LastB.miss {l : List Ev} {t : Int} {j : Nat} {b : Int} (h : LastB l t j b) {y : Ev} (hy : l[j]? = some y) (hn : ¬ (y.task = t ∧ y.kind = 1)) : LastB l t (j + 1) b :=
  ⟨h.1, by have := h.2.1; omega, fun i x hi hx hk ht => by
    by_cases hij : i = j
    · subst hij
      rw [hy] at hx
      injection hx with hx
      exact absurd ⟨hx ▸ ht, hx ▸ hk⟩ hn
    · exact h.2.2 i x (by omega) hx hk ht⟩
def DoneB (l : List Ev) (d : Int) (i : Nat) (q : Bool) : Prop := ∀ (j : Nat) (y : Ev), j < i → l[j]? = some y → y.kind = 2 → y.task = d → q = true
theorem DoneB.zero (l : List Ev) (d : Int) (q : Bool) : DoneB l d 0 q := fun j y hj => absurd hj (Nat.not_lt_zero _)
theorem DoneB.yes {l : List Ev} {d : Int} {i : Nat} : DoneB l d i true := fun _ _ _ _ _ _ => rfl
theorem DoneB.miss {l : List Ev} {d : Int} {i : Nat} {q : Bool} (h : DoneB l d i q) {x : Ev} (hx : l[i]? = some x) (hn : ¬ (x.task = d ∧ x.kind = 2)) : DoneB l d (i + 1) q := fun j y hj hy hk ht => by
  by_cases hij : j = i
  · subst hij
    rw [hx] at hy
    injection hy with hy
    exact absurd ⟨hy ▸ ht, hy ▸ hk⟩ hn
  · exact h j y (by omega) hy hk ht
theorem LI.all {N i : Nat} {e : Eng} (h : LI N i e) {t : Nat} (ht : t < N) (h5 : (e.life t).state = 5) {k : Nat} (hk : k < (e.gr.L false t).length) :
    ∃ d : Nat, (e.gr.L false t).getD k 0 = (d : Int) ∧ d < N ∧ (e.life d).state = 5 ∧ Bef e.log (d : Int) (t : Int) := by
  have hm : (e.gr.L false t).getD k 0 ∈ e.gr.L false t := by
    rw [List.getD_eq_getElem?_getD, List.getElem?_eq_getElem hk]
    exact List.getElem_mem _
  obtain ⟨d, hd, hdN⟩ := h.inv.gr.mem false t (by rw [h.inv.gN, h.N]; exact ht) _ hm
  rw [h.inv.gN, h.N] at hdN
  rw [hd] at hm
  obtain ⟨a1, _, _, a4⟩ := h.wt.a t (by rw [h.N]; exact ht) (fun h => h) d hm
  exact ⟨d, hd, hdN, a1 (by omega), a4 (by omega)⟩
theorem Bef.done {l : List Ev} {d t b : Int} {q : Bool} {m : Nat} (h : Bef l d t) (hb : LastB l t l.length b) (hq : DoneB l d m q) (hm : b ≤ m) : q = true := by
  obtain ⟨i, j, y, x, h1, h2, h3, h4, h5, h6, h7⟩ := h
  have hj : j < l.length := (List.getElem?_eq_some_iff.1 h3).1
  have := hb.2.2 j x hj h3 h6 h7
  exact hq i y (by omega) h2 h4 h5
end Go.Proofs.YtbpoapfkeinjnaaGreatDoor.Ld
