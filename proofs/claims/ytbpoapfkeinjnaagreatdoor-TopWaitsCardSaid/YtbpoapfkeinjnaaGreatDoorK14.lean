/- The engine of the yard and what it leans on, part 14. -/
import Derived.Test.YtbpoapfkeinjnaaGreatDoorK13
import Derived.OrdersHeld
import Derived.Deep.RegionHeld3
namespace Go.Proofs.YtbpoapfkeinjnaaGreatDoor.Ld
open Go.RowKit Go.Proofs.YtbpoapfkeinjnaaGreatDoorW.PrintWords Go.Proofs.YtbpoapfkeinjnaaGreatDoorW.PrintLast Go.Proofs.YtbpoapfkeinjnaaGreatDoorW.PrintMore
set_option linter.unusedVariables false
set_option linter.unusedSimpArgs false
def upf {α : Type} (f : Nat → α) (i : Nat) (x : α) : Nat → α := fun k => if k = i then x else f k
theorem upf_same {α : Type} (f : Nat → α) (i : Nat) (x : α) : upf f i x i = x := if_pos rfl
theorem upf_far {α : Type} (f : Nat → α) (i : Nat) (x : α) {k : Nat} (h : k ≠ i) : upf f i x k = f k := if_neg h
section
variable {S : Nat → Prop} {w : World} {g : Nat} {K : EK} {e : Eng}
theorem EngAt.fc (h : EngAt S w g K e) : w.cell? ⟨g, 0, none⟩ = some (.int .i64 e.c.budget) ∧ w.cell? ⟨g, 5, none⟩ = some (.int .i64 e.c.preempts) ∧ w.cell? ⟨g, 6, none⟩ = some (.int .i64 e.c.timeout) ∧ w.cell? ⟨g, 7, none⟩ = some (.int .i64 e.c.backoff) ∧ w.cell? ⟨g, 8, none⟩ = some (.int .i64 e.c.most) := by
  obtain ⟨ρ, vr, vl, cv, h⟩ := h
  have b := (h.p .eng).2
  exact ⟨(blk_cell b 0).trans rfl, (blk_cell b 5).trans rfl, (blk_cell b 6).trans rfl, (blk_cell b 7).trans rfl, (blk_cell b 8).trans rfl⟩
theorem EngAt.fnow (h : EngAt S w g K e) : w.cell? ⟨g, 18, none⟩ = some (.int .i64 e.now) := by
  obtain ⟨ρ, vr, vl, cv, h⟩ := h
  exact (blk_cell (h.p .eng).2 18).trans rfl
theorem EngAt.fbegun (h : EngAt S w g K e) : w.cell? ⟨g, 19, none⟩ = some (.int .i64 e.begun) := by
  obtain ⟨ρ, vr, vl, cv, h⟩ := h
  exact (blk_cell (h.p .eng).2 19).trans rfl
theorem EngAt.ffr (h : EngAt S w g K e) (k : Nat) : w.frozen? ⟨g, k, none⟩ = false := by
  obtain ⟨ρ, vr, vl, cv, h⟩ := h
  exact blk_frozen (h.p .eng).2 k
theorem EngAt.glt (h : EngAt S w g K e) : g < w.heap.size ∧ S g := by
  obtain ⟨ρ, vr, vl, cv, h⟩ := h
  exact ⟨blk_lt (h.p .eng).2, h.sub g (by rw [(h.p .eng).1]; exact fun e => by cases e)⟩
theorem EngAt.ftasks (h : EngAt S w g K e) : w.cell? ⟨g, 11, none⟩ = some (.slice (some ⟨K.ta, 0, none⟩) e.N K.tc) := by
  obtain ⟨ρ, vr, vl, cv, h⟩ := h
  exact (blk_cell (h.p .eng).2 11).trans rfl
theorem slRow_get {N : Nat} {f : Nat → Value} {i : Nat} (hi : i < N) : (slRow N f)[i]? = some (f i) := map_range_get f N i hi
theorem EngAt.ftask (h : EngAt S w g K e) (i : Nat) (hi : i < e.N) : w.cell? ⟨K.ta, i, none⟩ = some (.pointer (some ⟨K.tp i, 0, none⟩)) ∧ w.cell? ⟨K.tp i, 0, none⟩ = some (.int .i64 (e.mem i)) ∧ w.cell? ⟨K.tp i, 2, none⟩ = some (.pointer (some ⟨K.lp i, 0, none⟩)) ∧
    w.cell? ⟨K.tp i, 3, none⟩ = some (.int .i64 (e.waits i)) ∧ w.cell? ⟨K.tp i, 4, none⟩ = some (.int .i64 (e.since i)) ∧ ∀ k, w.frozen? ⟨K.tp i, k, none⟩ = false := by
  obtain ⟨ρ, vr, vl, cv, h⟩ := h
  obtain ⟨b, c, h1, h2, _⟩ := row_cell (h.p .tasks) i hi _ (slRow_get hi)
  have hb := (h.p (.task i) hi).2
  injection h1 with h1
  injection h1 with h1
  injection h1 with h1
  subst h1
  exact ⟨h2, (blk_cell hb 0).trans rfl, (blk_cell hb 2).trans rfl, (blk_cell hb 3).trans rfl, (blk_cell hb 4).trans rfl, fun k => blk_frozen hb k⟩
theorem EngAt.flife (h : EngAt S w g K e) (i : Nat) (hi : i < e.N) : LifeAt w (K.lp i) (e.life i) ∧ ∀ w' l', LifeAt w' (K.lp i) l' → Touch (K.lp i) w w' → To S w g K { e with life := upf e.life i l' } w' := by
  obtain ⟨ρ, vr, vl, cv, h⟩ := h
  have hl := h.p (.life i) hi
  refine ⟨hl.2, fun w' l' h1 h2 => ?_⟩
  have hc : Chg (R ρ (.life i)) w w' := Chg.of_touch h2 hl.1
  refine To.of_one (e1 := { e with life := upf e.life i l' }) (vr := vr) (vl := vl) (cv := cv) (h.one (.life i) (fun e => by cases e) hc (fun r hr hp => ?_) ?_) hc (fun k hk => h.sub k (by have hk' : ρ k = _ := hk; rw [hk']; exact fun e => by cases e))
  · cases r with
    | life j =>
      intro hj
      have hji : j ≠ i := fun e => hr (by rw [e])
      have := hp hj
      exact ⟨this.1, by show LifeAt w (K.lp j) (upf e.life i l' j); rw [upf_far _ _ _ hji]; exact this.2⟩
    | _ => exact hp
  · intro _
    exact ⟨(ext_old _ (blk_lt hl.2)).trans hl.1, by show LifeAt w' (K.lp i) (upf e.life i l' i); rw [upf_same]; exact h1⟩
theorem EngAt.stask (h : EngAt S w g K e) (i : Nat) (hi : i < e.N) (x : Int) :
    To S w g K { e with waits := upf e.waits i x } (w.setCell ⟨K.tp i, 3, none⟩ (.int .i64 x)) ∧ To S w g K { e with since := upf e.since i x } (w.setCell ⟨K.tp i, 4, none⟩ (.int .i64 x)) ∧ ∀ v, To S w g K e (w.setCell ⟨K.tp i, 5, none⟩ v) := by
  obtain ⟨ρ, vr, vl, cv, h⟩ := h
  have hl := h.p (.task i) hi
  have hc : ∀ k v, Chg (R ρ (.task i)) w (w.setCell ⟨K.tp i, k, none⟩ v) := fun k v => (Chg.refl _ w).set hl.1 k v
  have hs : ∀ k, R ρ (.task i) k → S k := fun k hk => h.sub k (by have hk' : ρ k = _ := hk; rw [hk']; exact fun e => by cases e)
  refine ⟨?_, ?_, fun v => ?_⟩
  · refine To.of_one (e1 := { e with waits := upf e.waits i x }) (vr := vr) (vl := vl) (cv := cv) (h.one (.task i) (fun e => by cases e) (hc _ _) (fun r hr hp => ?_) ?_) (hc _ _) hs
    · cases r with
      | task j =>
        intro hj
        have hji : j ≠ i := fun e => hr (by rw [e])
        have := hp hj
        refine ⟨this.1, this.2.trans ?_⟩
        show some (Obj.cells (encTk e _ j) 78 (0, 0)) = some (Obj.cells (encTk { e with waits := upf e.waits i x } _ j) 78 (0, 0))
        unfold encTk
        rw [show ({ e with waits := upf e.waits i x } : Eng).waits j = e.waits j from upf_far _ _ _ hji]
      | _ => exact hp
    · intro _
      refine ⟨(ext_old _ (blk_lt hl.2)).trans hl.1, blk_put hl.2 3 _ ?_⟩
      show (encTk e _ i).setIfInBounds 3 _ = encTk { e with waits := upf e.waits i x } _ i
      unfold encTk
      rw [show ({ e with waits := upf e.waits i x } : Eng).waits i = x from upf_same _ _ _]
      rfl
  · refine To.of_one (e1 := { e with since := upf e.since i x }) (vr := vr) (vl := vl) (cv := cv) (h.one (.task i) (fun e => by cases e) (hc _ _) (fun r hr hp => ?_) ?_) (hc _ _) hs
    · cases r with
      | task j =>
        intro hj
        have hji : j ≠ i := fun e => hr (by rw [e])
        have := hp hj
        refine ⟨this.1, this.2.trans ?_⟩
        show some (Obj.cells (encTk e _ j) 78 (0, 0)) = some (Obj.cells (encTk { e with since := upf e.since i x } _ j) 78 (0, 0))
        unfold encTk
        rw [show ({ e with since := upf e.since i x } : Eng).since j = e.since j from upf_far _ _ _ hji]
      | _ => exact hp
    · intro _
      refine ⟨(ext_old _ (blk_lt hl.2)).trans hl.1, blk_put hl.2 4 _ ?_⟩
      show (encTk e _ i).setIfInBounds 4 _ = encTk { e with since := upf e.since i x } _ i
      unfold encTk
      rw [show ({ e with since := upf e.since i x } : Eng).since i = x from upf_same _ _ _]
      rfl
  · refine To.of_one (e1 := e) (vr := vr) (vl := vl) (cv := upf cv i v) (h.one (.task i) (fun e => by cases e) (hc _ _) (fun r hr hp => ?_) ?_) (hc _ _) hs
    · cases r with
      | task j =>
        intro hj
        have hji : j ≠ i := fun e => hr (by rw [e])
        have := hp hj
        refine ⟨this.1, this.2.trans ?_⟩
        show some (Obj.cells (encTk e (K.V e.N vr vl cv) j) 78 (0, 0)) = some (Obj.cells (encTk e (K.V e.N vr vl (upf cv i v)) j) 78 (0, 0))
        unfold encTk
        rw [show (K.V e.N vr vl (upf cv i v)).cv j = cv j from upf_far _ _ _ hji]
        rfl
      | _ => exact hp
    · intro _
      refine ⟨(ext_old _ (blk_lt hl.2)).trans hl.1, blk_put hl.2 5 _ ?_⟩
      show (encTk e (K.V e.N vr vl cv) i).setIfInBounds 5 _ = encTk e (K.V e.N vr vl (upf cv i v)) i
      unfold encTk
      rw [show (K.V e.N vr vl (upf cv i v)).cv i = v from upf_same _ _ _]
      rfl
theorem EngAt.led (h : EngAt S w g K e) : w.cell? ⟨g, 15, none⟩ = some (.pointer (some ⟨K.gl, 0, none⟩)) ∧ At w K.gl e.led ∧ ∀ w' l', At w' K.gl l' → Touch K.gl w w' → To S w g K { e with led := l' } w' := by
  obtain ⟨ρ, vr, vl, cv, h⟩ := h
  have hl := h.p .led
  refine ⟨(blk_cell (h.p .eng).2 15).trans rfl, hl.2, fun w' l' h1 h2 => ?_⟩
  have hc : Chg (R ρ .led) w w' := Chg.of_touch h2 hl.1
  refine To.of_one (e1 := { e with led := l' }) (vr := vr) (vl := vl) (cv := cv) (h.one .led (fun e => by cases e) hc (fun r hr hp => ?_) ?_) hc (fun k hk => h.sub k (by have hk' : ρ k = _ := hk; rw [hk']; exact fun e => by cases e))
  · cases r with
    | led => exact absurd rfl hr
    | _ => exact hp
  · exact ⟨(ext_old _ (blk_lt hl.2)).trans hl.1, h1⟩
theorem EngAt.tm (h : EngAt S w g K e) : w.cell? ⟨g, 14, none⟩ = some (.pointer (some ⟨K.gm, 0, none⟩)) ∧ ∃ S1 : Nat → Prop, TmAt S1 w K.gm e.tm ∧ (∀ k, S1 k → k < w.heap.size) ∧ ∀ w' q, TmAt (up S1 w w') w' K.gm q → Chg S1 w w' → To S w g K { e with tm := q } w' := by
  obtain ⟨ρ, vr, vl, cv, h⟩ := h
  have hl := h.p .tm
  refine ⟨(blk_cell (h.p .eng).2 14).trans rfl, R ρ .tm, hl, fun k hk => h.lt k (by have hk' : ρ k = _ := hk; rw [hk']; exact fun e => by cases e), fun w' q h1 hc => ?_⟩
  refine To.of_one (e1 := { e with tm := q }) (vr := vr) (vl := vl) (cv := cv) (h.one .tm (fun e => by cases e) hc (fun r hr hp => ?_) ?_) hc (fun k hk => h.sub k (by have hk' : ρ k = _ := hk; rw [hk']; exact fun e => by cases e))
  · cases r with
    | tm => exact absurd rfl hr
    | _ => exact hp
  · exact TmAt.mono h1 fun k _ hk => h.up_role (fun e => by cases e) k hk
theorem EngAt.ad (h : EngAt S w g K e) : w.cell? ⟨g, 16, none⟩ = some (.pointer (some ⟨K.ga, 0, none⟩)) ∧ ∃ S1 : Nat → Prop, AdmAt S1 w K.ga e.ad ∧ (∀ k, S1 k → k < w.heap.size) ∧ ∀ w' q, AdmAt (up S1 w w') w' K.ga q → Chg S1 w w' → To S w g K { e with ad := q } w' := by
  obtain ⟨ρ, vr, vl, cv, h⟩ := h
  have hl := h.p .ad
  refine ⟨(blk_cell (h.p .eng).2 16).trans rfl, R ρ .ad, hl, fun k hk => h.lt k (by have hk' : ρ k = _ := hk; rw [hk']; exact fun e => by cases e), fun w' q h1 hc => ?_⟩
  refine To.of_one (e1 := { e with ad := q }) (vr := vr) (vl := vl) (cv := cv) (h.one .ad (fun e => by cases e) hc (fun r hr hp => ?_) ?_) hc (fun k hk => h.sub k (by have hk' : ρ k = _ := hk; rw [hk']; exact fun e => by cases e))
  · cases r with
    | ad => exact absurd rfl hr
    | _ => exact hp
  · exact AdmAt.mono h1 fun k _ hk => h.up_role (fun e => by cases e) k hk
theorem EngAt.tu (h : EngAt S w g K e) : w.cell? ⟨g, 17, none⟩ = some (.pointer (some ⟨K.gu, 0, none⟩)) ∧ ∃ S1 : Nat → Prop, TurAt S1 w K.gu e.tu ∧ (∀ k, S1 k → k < w.heap.size) ∧ ∀ w' q, TurAt (up S1 w w') w' K.gu q → Chg S1 w w' → To S w g K { e with tu := q } w' := by
  obtain ⟨ρ, vr, vl, cv, h⟩ := h
  have hl := h.p .tu
  refine ⟨(blk_cell (h.p .eng).2 17).trans rfl, R ρ .tu, hl, fun k hk => h.lt k (by have hk' : ρ k = _ := hk; rw [hk']; exact fun e => by cases e), fun w' q h1 hc => ?_⟩
  refine To.of_one (e1 := { e with tu := q }) (vr := vr) (vl := vl) (cv := cv) (h.one .tu (fun e => by cases e) hc (fun r hr hp => ?_) ?_) hc (fun k hk => h.sub k (by have hk' : ρ k = _ := hk; rw [hk']; exact fun e => by cases e))
  · cases r with
    | tu => exact absurd rfl hr
    | _ => exact hp
  · exact TurAt.mono h1 fun k _ hk => h.up_role (fun e => by cases e) k hk
theorem EngAt.gr (h : EngAt S w g K e) : w.cell? ⟨g, 13, none⟩ = some (.pointer (some ⟨K.gg, 0, none⟩)) ∧ ∃ S1 : Nat → Prop, GrAt S1 w K.gg e.gr ∧ (∀ k, S1 k → k < w.heap.size) ∧ ∀ w' q, GrAt (up S1 w w') w' K.gg q → Chg S1 w w' → To S w g K { e with gr := q } w' := by
  obtain ⟨ρ, vr, vl, cv, h⟩ := h
  have hl := h.p .gr
  refine ⟨(blk_cell (h.p .eng).2 13).trans rfl, R ρ .gr, hl, fun k hk => h.lt k (by have hk' : ρ k = _ := hk; rw [hk']; exact fun e => by cases e), fun w' q h1 hc => ?_⟩
  refine To.of_one (e1 := { e with gr := q }) (vr := vr) (vl := vl) (cv := cv) (h.one .gr (fun e => by cases e) hc (fun r hr hp => ?_) ?_) hc (fun k hk => h.sub k (by have hk' : ρ k = _ := hk; rw [hk']; exact fun e => by cases e))
  · cases r with
    | gr => exact absurd rfl hr
    | _ => exact hp
  · exact GrAt.mono h1 fun k _ hk => h.up_role (fun e => by cases e) k hk
theorem EngAt.all (h : EngAt S w g K e) : w.cell? ⟨g, 10, none⟩ = some K.va ∧ ∃ S1 : Nat → Prop, RowAt S1 w 29 2 K.va e.N (flat encTd e.tds) := by
  obtain ⟨ρ, vr, vl, cv, h⟩ := h
  exact ⟨(blk_cell (h.p .eng).2 10).trans rfl, _, h.p .all⟩
theorem EngAt.freq (h : EngAt S w g K e) (i : Nat) (hi : i < e.nr) : ∃ A c, w.cell? ⟨g, 12, none⟩ = some (.slice (some ⟨A, 0, none⟩) e.nr c) ∧ w.cell? ⟨A, i, none⟩ = some (.pointer (some ⟨K.rp i, 0, none⟩)) ∧ w.heap[K.rp i]? = some (.cells (encRq (e.rq i)) 93 (0, 0)) ∧
    ∀ x, To S w g K { e with rq := upf e.rq i { e.rq i with state := x } } (w.setCell ⟨K.rp i, 3, none⟩ (.int .i64 x)) := by
  obtain ⟨ρ, vr, vl, cv, h⟩ := h
  obtain ⟨b, c, h1, h2, _⟩ := row_cell (h.p .reqs) i hi _ (slRow_get hi)
  have hl := h.p (.req i) hi
  have h1' : vr = .slice (some ⟨b, 0, none⟩) e.nr c := h1
  subst h1'
  refine ⟨b, c, (blk_cell (h.p .eng).2 12).trans rfl, h2, hl.2, fun x => ?_⟩
  have hc : Chg (R ρ (.req i)) w (w.setCell ⟨K.rp i, 3, none⟩ (.int .i64 x)) := (Chg.refl _ w).set hl.1 _ _
  refine To.of_one (e1 := { e with rq := upf e.rq i { e.rq i with state := x } }) (vr := .slice (some ⟨b, 0, none⟩) e.nr c) (vl := vl) (cv := cv) (h.one (.req i) (fun e => by cases e) hc (fun r hr hp => ?_) ?_) hc (fun k hk => h.sub k (by have hk' : ρ k = _ := hk; rw [hk']; exact fun e => by cases e))
  · cases r with
    | req j =>
      intro hj
      have hji : j ≠ i := fun e => hr (by rw [e])
      have := hp hj
      refine ⟨this.1, this.2.trans ?_⟩
      show _ = some (Obj.cells (encRq (upf e.rq i _ j)) 93 (0, 0))
      rw [upf_far _ _ _ hji]
    | _ => exact hp
  · intro _
    refine ⟨(ext_old _ (blk_lt hl.2)).trans hl.1, blk_put hl.2 3 _ ?_⟩
    show _ = encRq (upf e.rq i _ i)
    rw [upf_same]
    rfl
theorem EngAt.fnr (h : EngAt S w g K e) : ∃ A c, w.cell? ⟨g, 12, none⟩ = some (.slice A e.nr c) := by
  obtain ⟨ρ, vr, vl, cv, h⟩ := h
  obtain ⟨A, c, h1⟩ := RowAt.slice (h.p .reqs)
  have h1' : vr = .slice A e.nr c := h1
  subst h1'
  exact ⟨A, c, (blk_cell (h.p .eng).2 12).trans rfl⟩
theorem EngAt.snum (h : EngAt S w g K e) (x : Int) : To S w g K { e with now := x } (w.setCell ⟨g, 18, none⟩ (.int .i64 x)) ∧ To S w g K { e with begun := x } (w.setCell ⟨g, 19, none⟩ (.int .i64 x)) := by
  obtain ⟨ρ, vr, vl, cv, h⟩ := h
  have hl := h.p .eng
  have hc : ∀ k v, Chg (R ρ .eng) w (w.setCell ⟨g, k, none⟩ v) := fun k v => (Chg.refl _ w).set hl.1 k v
  have hs : ∀ k, R ρ .eng k → S k := fun k hk => h.sub k (by have hk' : ρ k = _ := hk; rw [hk']; exact fun e => by cases e)
  refine ⟨?_, ?_⟩
  · refine To.of_one (e1 := { e with now := x }) (vr := vr) (vl := vl) (cv := cv) (h.one .eng (fun e => by cases e) (hc _ _) (fun r hr hp => ?_) ?_) (hc _ _) hs
    · cases r with
      | eng => exact absurd rfl hr
      | _ => exact hp
    · exact ⟨(ext_old _ (blk_lt hl.2)).trans hl.1, blk_put hl.2 18 _ rfl⟩
  · refine To.of_one (e1 := { e with begun := x }) (vr := vr) (vl := vl) (cv := cv) (h.one .eng (fun e => by cases e) (hc _ _) (fun r hr hp => ?_) ?_) (hc _ _) hs
    · cases r with
      | eng => exact absurd rfl hr
      | _ => exact hp
    · exact ⟨(ext_old _ (blk_lt hl.2)).trans hl.1, blk_put hl.2 19 _ rfl⟩
end
end Go.Proofs.YtbpoapfkeinjnaaGreatDoor.Ld
namespace Go.Proofs.YtbpoapfkeinjnaaGreatDoor.Ld
open Go.RowKit Go.Proofs.YtbpoapfkeinjnaaGreatDoorW.PrintWords Go.Proofs.YtbpoapfkeinjnaaGreatDoorW.PrintLast Go.Proofs.YtbpoapfkeinjnaaGreatDoorW.PrintMore
set_option linter.unusedVariables false
set_option linter.unusedSimpArgs false
structure PreN (S : Nat → Prop) (w wb w6 : World) (e : TypeId) (sz : Nat) (v v6 : Value) (n' : Nat) (xs' : List Value) (g k : Nat) (cs : Array Value) (ty : TypeId) : Prop where
  pre : Pre S w wb w6 e sz v v6 n' xs' g k cs ty
  old : ∀ j, j < w.heap.size → v.ownBlock ≠ some j → w6.heap[j]? = w.heap[j]?
theorem PreN.cell {S : Nat → Prop} {w wb w6 : World} {e : TypeId} {sz : Nat} {v v6 : Value} {n' : Nat} {xs' : List Value} {g k : Nat} {cs : Array Value} {ty : TypeId} (h : PreN S w wb w6 e sz v v6 n' xs' g k cs ty) {b j : Nat} {x : Value} (hc : w.cell? ⟨b, j, none⟩ = some x) (hlt : b < w.heap.size) (hne : v.ownBlock ≠ some b) : w6.cell? ⟨b, j, none⟩ = some x :=
  (World.cell?_of_block (a := ⟨b, j, none⟩) (h.old b hlt hne)).trans hc
section
variable {P : Program} {ops : Array Oper} {rest : List Oper} {o : Oper} {a : Act} {Q : Exit → Act → World → Prop}
theorem wp_push_n {S : Nat → Prop} {w wb : World} (hgd : o.guard = none) (s x : Operand) (t e : TypeId) (z : Value) (sz bytes : Nat)
    (ho : o.op = .call { callee := .builtin .append, args := #[s, x], argTypes := #[t, t] })
    (ht : P.underlying t = some (.slice e)) (hinfo : (P.info? e).map (fun i => (i.zero, i.size, i.bytes)) = some (some z, sz, bytes)) (hz : z.cells.size = sz) (hs0 : 0 < sz) (hb0 : 0 < bytes)
    (v : Value) (n : Nat) (xs ys : List Value) (g k : Nat) (cs : Array Value) (ty : TypeId) (hs : a.eval s = v) (hx : a.eval x = .slice (some ⟨wb.heap.size, 0, none⟩) 1 1) (hys : ys.length = sz) (h1 : ∀ u ∈ ys, u.oneCell' = true)
    (HR : RowAt S w e sz v n xs) (hb : Below w.heap.size w wb) (hblk : w.heap[g]? = some (.cells cs ty (0, 0))) (hty : e ≠ ty) (hl : (n + 1) * bytes ≤ 140737488355328)
    (h : ∀ A6 c6 w6, PreN S w wb w6 e sz v (.slice A6 (n + 1) c6) (n + 1) (xs ++ ys) g k cs ty → wpList P ops Q rest (a.put o.dst (.slice A6 (n + 1) c6)) w6) :
    wpList P ops Q (o :: rest) a (wb.alloc (.cells ys.toArray e)) := by
  have hro : wb.ownsRow 0 e sz v n xs := own_same HR.own fun j hj => hb.block j (own_lt HR.own j hj)
  refine print_append_cells (w0 := wb) 0 hgd s x t e z sz bytes ho ht hinfo hz hs0 hb0 v n xs ys hs hx hys h1 hro (Below.refl 0 wb) (Nat.zero_le _) hl ?_
  intro v6 w6 ho6 _ hg hat
  obtain ⟨A6, c6, rfl⟩ := own_slice ho6
  exact h A6 c6 w6 ⟨⟨blk_grown ((hb.block g (blk_lt hblk)).trans hblk) hg (own_ne HR.own hblk hty), row_push k HR hb ho6 hg hat hblk hty⟩, fun j h1 h2 => (hg.block j (Nat.lt_of_lt_of_le h1 hb.size) (fun e => h2 e.symm)).trans (hb.block j h1)⟩
end
section
variable {P : Program} {ops : Array Oper} {o : Oper} {a : Act} {K : Act → World → Prop} {Q : Exit → Act → World → Prop} {E : Prop}
theorem step_push_n {S : Nat → Prop} {w wb : World} (hgd : o.guard = none) (s x : Operand) (t e : TypeId) (z : Value) (sz bytes : Nat)
    (ho : o.op = .call { callee := .builtin .append, args := #[s, x], argTypes := #[t, t] })
    (ht : P.underlying t = some (.slice e)) (hinfo : (P.info? e).map (fun i => (i.zero, i.size, i.bytes)) = some (some z, sz, bytes)) (hz : z.cells.size = sz) (hs0 : 0 < sz) (hb0 : 0 < bytes)
    (v : Value) (n : Nat) (xs ys : List Value) (g k : Nat) (cs : Array Value) (ty : TypeId) (hs : a.eval s = v) (hx : a.eval x = .slice (some ⟨wb.heap.size, 0, none⟩) 1 1) (hys : ys.length = sz) (h1 : ∀ u ∈ ys, u.oneCell' = true)
    (HR : RowAt S w e sz v n xs) (hb : Below w.heap.size w wb) (hblk : w.heap[g]? = some (.cells cs ty (0, 0))) (hty : e ≠ ty) (hl : (n + 1) * bytes ≤ 140737488355328)
    (h : ∀ A6 c6 w6, PreN S w wb w6 e sz v (.slice A6 (n + 1) c6) (n + 1) (xs ++ ys) g k cs ty → K (a.put o.dst (.slice A6 (n + 1) c6)) w6) :
    if Region.wanted o (yielded ops a.tmps) = true then Oper.wp P o a (wb.alloc (.cells ys.toArray e)) K Q else E := by
  have hw : Region.wanted o (yielded ops a.tmps) = true := by simp [Region.wanted, hgd]
  rw [if_pos hw]
  have hro : wb.ownsRow 0 e sz v n xs := own_same HR.own fun j hj => hb.block j (own_lt HR.own j hj)
  obtain ⟨i0, hi, hzz⟩ := Option.map_eq_some_iff.1 hinfo
  simp only [Prod.mk.injEq] at hzz
  obtain ⟨hz0, hz1, hz2⟩ := hzz
  have hlen : n + 1 ≤ 140737488355328 := Nat.le_trans (Nat.le_mul_of_pos_right _ hb0) hl
  refine wp_append_lies (wb.alloc (.cells ys.toArray e)) s x t ho 0 e i0 z sz bytes ht hi hz0 hz1 hz2 hz hs0 v n xs hs (hro.alloc _) ⟨wb.heap.size, 0, none⟩ 1 1 ys hx (by rw [hys]; simp)
    (by simpa using World.news_of_block (cs := ys.toArray) (t := e) (fr := (0, 0)) (heap_alloc_new wb (.cells ys.toArray e))) h1 (by omega) (by simp only [maxLen]; omega) hl (by simp) _ rfl ?_
  intro b c w6 ho6 hg hat hlt
  have hg' := World.grownBy.trans (World.grownBy_alloc wb _ _) hg
  exact h _ _ w6 ⟨⟨blk_grown ((hb.block g (blk_lt hblk)).trans hblk) hg' (own_ne HR.own hblk hty), row_push k HR hb ho6 hg' (by
    rcases hat with hat | hat
    · exact .inl hat.symm
    · exact .inr ⟨b, rfl, by rw [hat]; simp⟩) hblk hty⟩, fun j h1 h2 => (hg'.block j (Nat.lt_of_lt_of_le h1 hb.size) (fun e => h2 e.symm)).trans (hb.block j h1)⟩
end
section
variable {S : Nat → Prop} {w : World} {g : Nat} {K : EK} {e : Eng}
theorem enc_log (e : Eng) (V : EV) (x : Ev) (v : Value) : (encEng e V).setIfInBounds 20 v = encEng { e with log := e.log ++ [x] } { V with vl := v } := rfl
theorem EngAt.logp (h : EngAt S w g K e) : ∃ S1 : Nat → Prop, ∃ A c cs, w.cell? ⟨g, 20, none⟩ = some (.slice A e.log.length c) ∧ RowAt S1 w 52 5 (.slice A e.log.length c) e.log.length (flat encEv e.log) ∧ w.heap[g]? = some (.cells cs 72 (0, 0)) ∧ cs[20]? = some (.slice A e.log.length c) ∧ (∀ k, (k = g ∨ k = K.ta ∧ 0 < e.N ∨ ∃ i, i < e.N ∧ k = K.tp i) → k < w.heap.size ∧ (Value.slice A e.log.length c).ownBlock ≠ some k) ∧
    ∀ (x : Ev) wb w7 v6, Below w.heap.size w wb → Pushed S1 w wb w7 52 5 (.slice A e.log.length c) v6 (e.log.length + 1) (flat encEv e.log ++ encEv x) g (cs.setIfInBounds 20 v6) 72 → To S w g K { e with log := e.log ++ [x] } w7 := by
  obtain ⟨ρ, vr, vl, cv, h⟩ := h
  obtain ⟨A, c, h1⟩ := RowAt.slice (h.p .log)
  have h1' : vl = .slice A e.log.length c := h1
  have hl := h.p .log
  have he := h.p .eng
  refine ⟨R ρ .log, A, c, _, ?_, ?_, he.2, by rw [← h1']; rfl, fun k hk => ?_, fun x wb w7 v6 hb hp => ?_⟩
  · rw [← h1']; exact (blk_cell he.2 20).trans rfl
  · rw [← h1']; exact hl
  · rw [← h1']
    have hρ : ρ k ≠ .log ∧ k < w.heap.size := by
      rcases hk with rfl | ⟨rfl, h0⟩ | ⟨i, hi, rfl⟩
      · exact ⟨by rw [he.1]; exact (fun e => by cases e), blk_lt he.2⟩
      · have ht := h.p .tasks
        have h2 := ht.fp K.ta rfl
        exact ⟨by rw [show ρ K.ta = _ from h2]; exact (fun e => by cases e), own_lt ht.own K.ta rfl⟩
      · have ht := h.p (.task i) hi
        exact ⟨by rw [show ρ (K.tp i) = _ from ht.1]; exact (fun e => by cases e), blk_lt ht.2⟩
    exact ⟨hρ.2, fun e => hρ.1 (hl.fp k e)⟩
  · rw [← h1'] at hp
    have hc : Chg (fun k => (fun r => r = .eng ∨ r = .log) (ρ k)) w w7 := hp.chg.mono fun k hk => by
      rcases hk with rfl | hk
      · exact .inl he.1
      · exact .inr (hl.fp k hk)
    refine To.of_one (e1 := { e with log := e.log ++ [x] }) (vr := vr) (vl := v6) (cv := cv) (h.step (ext ρ w w7 .log) (fun r => r = .eng ∨ r = .log) (fun k hk => ext_old k hk) (h.ext_lt hp.chg.size) hc (fun r hr hq => ?_) (fun r hr => ?_)) hc (fun k hk => h.sub k (fun e0 => by rw [e0] at hk; rcases hk with hk | hk <;> cases hk))
    · cases r with
      | eng => exact absurd (.inl rfl) hr
      | log => exact absurd (.inr rfl) hr
      | _ => exact hq
    · rcases hr with rfl | rfl
      · exact ⟨(ext_old _ (blk_lt he.2)).trans he.1, hp.blk⟩
      · have := hp.row.mono (T := R (ext ρ w w7 .log) .log) fun k _ hk => h.up_role (fun e => by cases e) k hk
        show RowAt _ w7 52 5 v6 (e.log ++ [x]).length (flat encEv (e.log ++ [x]))
        rw [flat_append, List.length_append, List.length_singleton, show flat encEv [x] = encEv x by simp [flat]]
        exact this
theorem slRow_snoc (n : Nat) (f : Nat → Nat) (b : Nat) : slRow n (fun i => ptrV (f i)) ++ [ptrV b] = slRow (n + 1) fun i => ptrV (upf f n b i) := by
  unfold slRow
  rw [List.range_succ, List.map_append, List.map_singleton, upf_same]
  congr 1
  refine List.map_congr_left fun i hi => ?_
  rw [upf_far _ _ _ (by have := List.mem_range.1 hi; omega)]
theorem EngAt.reqp (h : EngAt S w g K e) : ∃ S1 : Nat → Prop, ∃ A c cs, w.cell? ⟨g, 12, none⟩ = some (.slice A e.nr c) ∧ RowAt S1 w 91 1 (.slice A e.nr c) e.nr (slRow e.nr fun i => ptrV (K.rp i)) ∧ w.heap[g]? = some (.cells cs 72 (0, 0)) ∧ cs[12]? = some (.slice A e.nr c) ∧
    ∀ (x : Rq) wb w7 v6 b, Below w.heap.size w wb → w.heap.size ≤ b → wb.heap[b]? = some (.cells (encRq x) 93 (0, 0)) → Pushed S1 w wb w7 91 1 (.slice A e.nr c) v6 (e.nr + 1) (slRow e.nr (fun i => ptrV (K.rp i)) ++ [ptrV b]) g (cs.setIfInBounds 12 v6) 72 →
      To S w g { K with rp := upf K.rp e.nr b } { e with nr := e.nr + 1, rq := upf e.rq e.nr x } w7 := by
  obtain ⟨ρ, vr, vl, cv, h⟩ := h
  obtain ⟨A, c, h1⟩ := RowAt.slice (h.p .reqs)
  have h1' : vr = .slice A e.nr c := h1
  have hl := h.p .reqs
  have he := h.p .eng
  refine ⟨R ρ .reqs, A, c, _, ?_, ?_, he.2, by rw [← h1']; rfl, fun x wb w7 v6 b hbw hb hbx hp => ?_⟩
  · rw [← h1']; exact (blk_cell he.2 12).trans rfl
  · rw [← h1']; exact hl
  · rw [← h1'] at hp
    have hb7 : b < w7.heap.size := Nat.lt_of_lt_of_le (blk_lt hbx) hp.lt
    have hc : Chg (fun k => (fun r => r = .eng ∨ r = .reqs ∨ r = .req e.nr) (ρ k)) w w7 := hp.chg.mono fun k hk => by
      rcases hk with rfl | hk
      · exact .inl he.1
      · exact .inr (.inl (hl.fp k hk))
    obtain ⟨ρ', hρ'⟩ : ∃ ρ' : Nat → Rl, ρ' = fun k => if k = b then .req e.nr else ext ρ w w7 .reqs k := ⟨_, rfl⟩
    have h_old : ∀ k, k < w.heap.size → ρ' k = ρ k := fun k hk => by rw [hρ']; show (if k = b then _ else _) = _; rw [if_neg (by omega)]; exact ext_old k hk
    have hvb : ∀ k, v6.ownBlock = some k → k ≠ b := fun k hk e => by
      subst e
      have h9 := (hp.new k hb (blk_lt hbx)).trans hbx
      exact own_ne hp.row.own h9 (by decide) hk.symm
    refine To.of_one (e1 := { e with nr := e.nr + 1, rq := upf e.rq e.nr x }) (vr := v6) (vl := vl) (cv := cv) (h.step ρ' (fun r => r = .eng ∨ r = .reqs ∨ r = .req e.nr) h_old (fun k hk => ?_) hc (fun r hr hq => ?_) (fun r hr => ?_)) hp.chg (fun k hk => ?_)
    · rw [hρ'] at hk
      have hk' : (if k = b then Rl.req e.nr else ext ρ w w7 .reqs k) ≠ .no := hk
      by_cases hkb : k = b
      · omega
      · rw [if_neg hkb] at hk'; exact h.ext_lt hp.chg.size k hk'
    · cases r with
      | eng => exact absurd (.inl rfl) hr
      | reqs => exact absurd (.inr (.inl rfl)) hr
      | req j =>
        intro hj
        have hj' : j < e.nr + 1 := hj
        have hjn : j ≠ e.nr := fun e => hr (.inr (.inr (by rw [e])))
        have := hq (by omega)
        have e1 : upf K.rp e.nr b j = K.rp j := upf_far _ _ _ hjn
        have e2 : upf e.rq e.nr x j = e.rq j := upf_far _ _ _ hjn
        refine ⟨?_, ?_⟩
        · show ρ (upf K.rp e.nr b j) = _
          rw [e1]; exact this.1
        · show w.heap[upf K.rp e.nr b j]? = some (.cells (encRq (upf e.rq e.nr x j)) 93 (0, 0))
          rw [e1, e2]; exact this.2
      | _ => exact hq
    · rcases hr with rfl | rfl | rfl
      · exact ⟨(h_old _ (blk_lt he.2)).trans he.1, hp.blk⟩
      · show RowAt _ w7 91 1 v6 (e.nr + 1) (slRow (e.nr + 1) fun i => ptrV (upf K.rp e.nr b i))
        rw [← slRow_snoc]
        refine ⟨hp.row.own, fun k hk => ?_⟩
        have := h.up_role (r := .reqs) (fun e => by cases e) k (hp.row.fp k hk)
        show ρ' k = _
        rw [hρ']
        show (if k = b then _ else _) = _
        rw [if_neg (hvb k hk)]
        exact this
      · intro _
        refine ⟨?_, ?_⟩
        · show ρ' (upf K.rp e.nr b e.nr) = _
          rw [upf_same, hρ']
          exact if_pos rfl
        · show w7.heap[upf K.rp e.nr b e.nr]? = some (.cells (encRq (upf e.rq e.nr x e.nr)) 93 (0, 0))
          rw [upf_same, upf_same]
          exact (hp.new b hb (blk_lt hbx)).trans hbx
    · rcases hk with rfl | hk
      · exact h.sub _ (by rw [he.1]; exact fun e => by cases e)
      · exact h.sub _ (by have := hl.fp k hk; rw [show ρ k = _ from this]; exact fun e => by cases e)
end
end Go.Proofs.YtbpoapfkeinjnaaGreatDoor.Ld
namespace Go.Proofs.YtbpoapfkeinjnaaGreatDoor.Qt
open Go
set_option linter.unusedVariables false
set_option linter.unusedSimpArgs false
section
variable {P : Program} {ops : Array Oper} {Q : Exit → Act → World → Prop} {md : Region.Mode} {S : World → Prop}
def wpAnyT (P : Program) (md : Region.Mode) (ops : Array Oper) (Q : Exit → Act → World → Prop) (S : World → Prop) (n : Nat) : Nat → Array Bool → Act → World → Prop
  | 0, listed, a, w => Region.ready md ops listed = [] ∧ Q .normal a w
  | fuel + 1, listed, a, w =>
    (Region.ready md ops listed = [] → Q .normal a w) ∧
    ∀ i ∈ Region.ready md ops listed, wpOp P ops Q i (fun a' w' => (i < n → S w') ∧ wpAnyT P md ops Q S n fuel (listed.setIfInBounds i true) a' w') a w
theorem wpAny_of_T {n : Nat} : ∀ (fuel : Nat) (listed : Array Bool) (a : Act) (w : World), wpAnyT P md ops Q S n fuel listed a w → wpAny P md ops Q fuel listed a w
  | 0, _, _, _, h => h
  | fuel + 1, _, _, _, h => ⟨h.1, fun i hi => wpOp_mono (fun a' w' h' => wpAny_of_T fuel _ a' w' h'.2) (h.2 i hi)⟩
theorem wpAnyT_first {n i : Nat} {oi : Oper} {v : Value} {l0 : Array Bool} (hi : ops[i]? = some oi) (hsel : ∀ (j : Nat) (o : Oper) cs b, ops[j]? = some o → o.op ≠ .select cs b)
    (hQ : ∀ c a w, Q (.panic c) (a.put oi.dst v) w → Q (.panic c) a w) (hs : sinkB2 md ops n l0 = true) (hc : Region.chainB md ops n = true) (hn : n < ops.size) (hin : i < n) :
    ∀ (fuel : Nat) (listed : Array Bool) (a : Act) (w : World), Inv2 md ops n l0 listed →
      (∀ j oj, ops[j]? = some oj → j ≠ i → listed.getD j true = false → (∀ e ∈ oj.after, Region.binds md e = true → e.on ≠ i) → oi.apart ops oj = true) →
      i ∈ Region.ready md ops listed → YieldsIf P ops S oi v a → S w →
      wpAnyT P md ops Q S n fuel (listed.setIfInBounds i true) (a.put oi.dst v) w → wpAnyT P md ops Q S n (fuel + 1) listed a w := by
  intro fuel
  induction fuel with
  | zero =>
    intro listed a w inv _ hr hy hS H
    refine ⟨fun h => (by rw [h] at hr; cases hr), fun j hj => ?_⟩
    by_cases hji : j = i
    · subst hji; exact hy.wpOp hi hS ⟨fun _ => hS, H⟩
    · have := ready_mono hj hji
      rw [H.1] at this
      cases this
  | succ fuel ih =>
    intro listed a w inv hfree hr hy hS H
    refine ⟨fun h => (by rw [h] at hr; cases hr), fun j hj => ?_⟩
    by_cases hji : j = i
    · subst hji; exact hy.wpOp hi hS ⟨fun _ => hS, H⟩
    · have hjn : j < n := by
        rcases Nat.lt_or_ge j n with h | h
        · exact h
        · exact absurd hj (tail_waits2 hs hc hn inv _ i rfl hin (mem_ready.1 hr).1 j h)
      have h1 := H.2 j (ready_mono hj hji)
      obtain ⟨hjun, oj, hoj, hall⟩ := mem_ready.1 hj
      have hnot : ∀ e ∈ oj.after, Region.binds md e = true → e.on ≠ i := fun e he hb heq => by
        have h1 := hall e he hb
        have h0 := getD_both (mem_ready.1 hr).1
        rw [heq, h0] at h1
        cases h1
      have h2 := wpOp_putIf hoj (hfree j oj hoj hji hjun hnot) (fun cs b => hsel i oi cs b hi) (fun cs b => hsel j oj cs b hoj) hQ hy h1
      have hfree' : ∀ k ok, ops[k]? = some ok → k ≠ i → (listed.setIfInBounds j true).getD k true = false →
          (∀ e ∈ ok.after, Region.binds md e = true → e.on ≠ i) → oi.apart ops ok = true := fun k ok hk hki hun hno => by
        refine hfree k ok hk hki ?_ hno
        by_cases hjk : j = k
        · subst hjk; exact hjun
        · rw [getD_set_ne true hjk] at hun; exact hun
      refine wpOp_mono (fun a' w' h3 => ⟨h3.2.1, ih (listed.setIfInBounds j true) a' w' (inv.set hj hjn) hfree' (ready_mono hr (Ne.symm hji)) h3.1 (h3.2.1 hjn) ?_⟩) h2
      rw [Array.setIfInBounds_comm _ _ hji]
      exact h3.2.2
def isVal : Op → Bool
  | .move _ | .assign _ | .build .. | .load .. | .fieldAddr .. | .indexAddr .. | .binOp .. | .convert .. | .extract .. => true
  | .nilCheck _ => true
  | _ => false
theorem run_value {s : Sem Value} {w w' : World} {n : Next} (h : Sem.run P ((do pure (Next.value (← s))) : Sem Next) w = .ok n w') : ∃ u, n = .value u := by
  rw [Sem.run_bind] at h
  cases hr : s.run P w with
  | ok x w1 => rw [hr] at h; simp only [Result.andThen_ok, Sem.run_pure] at h; injection h with h _; exact ⟨_, h.symm⟩
  | halt x w1 => rw [hr] at h; simp only [Result.andThen_halt] at h; cases h
theorem bind_inv {α β : Type} {s : Sem α} {f : α → Sem β} {w w' : World} {n : β} (h : Sem.run P (s >>= f) w = .ok n w') : ∃ x w1, s.run P w = .ok x w1 ∧ (f x).run P w1 = .ok n w' := by
  rw [Sem.run_bind] at h
  cases hr : s.run P w with
  | ok x w1 => rw [hr] at h; simp only [Result.andThen_ok] at h; exact ⟨x, w1, rfl, h⟩
  | halt x w1 => rw [hr] at h; simp only [Result.andThen_halt] at h; cases h
theorem isVal_value {o : Oper} {ρ : Operand → Value} {w w' : World} {n : Next} (hv : isVal o.op = true) (h : (execOp ρ o).run P w = .ok n w') : ∃ u, n = .value u := by
  unfold execOp at h
  cases ho : o.op <;> rw [ho] at h hv <;> first | cases hv | skip
  case nilCheck x =>
    simp only at h
    split at h
    all_goals first
      | (simp [runtimePanic] at h; done)
      | (simp only [Sem.run_pure] at h; injection h with h _; exact ⟨_, h.symm⟩)
      | skip
    split at h
    · simp [runtimePanic] at h
    · obtain ⟨x1, w1, _, h⟩ := bind_inv h
      obtain ⟨x2, w2, _, h⟩ := bind_inv h
      split at h
      · obtain ⟨x3, w3, _, h⟩ := bind_inv h
        simp only [Sem.run_pure] at h; injection h with h _; exact ⟨_, h.symm⟩
      · simp only [Sem.run_pure] at h; injection h with h _; exact ⟨_, h.symm⟩
    · simp only [Sem.run_pure] at h; injection h with h _; exact ⟨_, h.symm⟩
  all_goals first | exact run_value h | (simp only [Sem.run_pure] at h; injection h with h _; exact ⟨_, h.symm⟩)
theorem yieldsIf_of_quiet {o : Oper} {a : Act} {K : Act → Prop} (hv : isVal o.op = true) (hw : Region.wanted o (yielded ops a.tmps) = true) (hS : ∃ w, S w) (h : o.quiet P a S K) : ∃ v, YieldsIf P ops S o v a ∧ K (a.put o.dst v) := by
  obtain ⟨v, h1, h2⟩ := h
  refine ⟨v, .inl ⟨hw, fun w hw => ?_⟩, h2⟩
  have h3 := h1 w hw
  unfold Oper.quietAt at h3
  cases hr : (execOp a.eval o).run P w with
  | ok n w1 =>
    rw [hr] at h3
    obtain ⟨u, rfl⟩ := isVal_value hv hr
    simp only [Oper.quietUpon] at h3
    obtain ⟨e1, e2⟩ := h3
    rw [e1, e2]
  | halt x w1 => rw [hr] at h3; simp only [Oper.quietUpon] at h3
def batchB (md : Region.Mode) (ops : Array Oper) (n : Nat) : List Nat → Array Bool → Bool
  | [], _ => true
  | k :: js, listed => (Region.ready md ops listed).contains k && (Region.free md ops listed k && (decide (k < n) && batchB md ops n js (listed.setIfInBounds k true)))
def marks : List Nat → Array Bool → Array Bool
  | [], listed => listed
  | k :: js, listed => marks js (listed.setIfInBounds k true)
def batchOk (ops : Array Oper) (js : List Nat) : Bool := js.all fun k => match ops[k]? with | some o => isVal o.op | none => false
structure Held (md : Region.Mode) (ops : Array Oper) (n : Nat) (l0 listed : Array Bool) : Prop where
  sel : Region.noSelect ops = true
  sink : sinkB2 md ops n l0 = true
  chain : Region.chainB md ops n = true
  lt : n < ops.size
  inv : Inv2 md ops n l0 listed
theorem Held.batch {n : Nat} {l0 : Array Bool} : ∀ (js : List Nat) (listed : Array Bool), Held md ops n l0 listed → batchB md ops n js listed = true → Held md ops n l0 (marks js listed)
  | [], _, h, _ => h
  | k :: js, listed, h, hB => by
    unfold batchB at hB
    rw [Bool.and_eq_true, Bool.and_eq_true, Bool.and_eq_true, decide_eq_true_eq] at hB
    exact Held.batch js _ ⟨h.sel, h.sink, h.chain, h.lt, h.inv.set (by simpa using hB.1) hB.2.2.1⟩ hB.2.2.2
theorem wpAnyT_batch {n g : Nat} {l0 : Array Bool} (hQ : ∀ c a d v w, Q (.panic c) (Act.put a d v) w → Q (.panic c) a w) {w : World} (hS : S w) :
    ∀ (js : List Nat) (os : List Oper) (listed : Array Bool) (a : Act), js.map (fun j => ops[j]?) = os.map some → batchOk ops js = true → Held md ops n l0 listed → batchB md ops n js listed = true →
    wpQuiet P ops S (fun a' => wpAnyT P md ops Q S n g (marks js listed) a' w) os a → wpAnyT P md ops Q S n (js.length + g) listed a w
  | [], os, listed, a, ho, _, _, _, h => by
    cases os with
    | nil => rw [List.length_nil, Nat.zero_add]; exact h
    | cons o os => cases ho
  | k :: js, os, listed, a, ho, hok, hH, hB, h => by
    cases os with
    | nil => cases ho
    | cons o os =>
      injection ho with h0 ho
      have hB0 := hB
      unfold batchB at hB
      rw [Bool.and_eq_true, Bool.and_eq_true, Bool.and_eq_true, decide_eq_true_eq] at hB
      obtain ⟨b1, b2, b3, b4⟩ := hB
      have hr : k ∈ Region.ready md ops listed := by simpa using b1
      have hok1 : isVal o.op = true ∧ batchOk ops js = true := by
        have h0' : ops[k]? = some o := h0
        unfold batchOk at hok
        rw [List.all_cons, Bool.and_eq_true, h0'] at hok
        exact hok
      have hl : (k :: js).length + g = (js.length + g) + 1 := by rw [List.length_cons]; omega
      rw [hl]
      have hH' : Held md ops n l0 (listed.setIfInBounds k true) := ⟨hH.sel, hH.sink, hH.chain, hH.lt, hH.inv.set hr b3⟩
      have hstep : ∀ v, YieldsIf P ops S o v a → wpQuiet P ops S (fun a' => wpAnyT P md ops Q S n g (marks (k :: js) listed) a' w) os (a.put o.dst v) → wpAnyT P md ops Q S n ((js.length + g) + 1) listed a w := fun v hy hk =>
        wpAnyT_first h0 (Region.noSelect_spec hH.sel) (fun c a w => hQ c a o.dst v w) hH.sink hH.chain hH.lt b3 _ listed a w hH.inv (Region.free_spec h0 b2) hr hy hS
          (wpAnyT_batch hQ hS js os _ _ ho hok1.2 hH' b4 hk)
      unfold wpQuiet at h
      by_cases hw : Region.wanted o (yielded ops a.tmps) = true
      · rw [if_pos hw] at h
        obtain ⟨v, hy, hk⟩ := yieldsIf_of_quiet hok1.1 hw ⟨w, hS⟩ h
        exact hstep v hy hk
      · rw [if_neg hw] at h
        exact hstep undef (.inr ⟨by simpa using hw, rfl⟩) h
def Qk (K : Act → World → Prop) (Q : Exit → Act → World → Prop) : Exit → Act → World → Prop
  | .normal, a, w => K a w
  | e, a, w => Q e a w
theorem wpOp_of_list {K : Act → World → Prop} {i : Nat} {o : Oper} {a : Act} {w : World} (hi : ops[i]? = some o) (h : wpList P ops (Qk K Q) [o] a w) : wpOp P ops Q i K a w := by
  unfold wpOp
  simp only [hi]
  unfold wpList at h
  split
  · rename_i hw
    rw [if_pos hw] at h
    rcases h with h | ⟨h1, h2⟩
    · refine .inl ?_
      unfold Oper.wp at h ⊢
      cases hr : (execOp a.eval o).run P w with
      | ok n w1 =>
        rw [hr] at h
        cases n <;> exact h
      | halt x w1 => rw [hr] at h; cases x <;> exact h
    · exact .inr ⟨h1, h2⟩
  · rename_i hw
    rw [if_neg hw] at h
    exact h
theorem wpAnyT_one {n i g : Nat} {o : Oper} {listed : Array Bool} {a : Act} {w : World} (hr : Region.ready md ops listed = [i]) (hi : ops[i]? = some o)
    (h : wpList P ops (Qk (fun a' w' => (i < n → S w') ∧ wpAnyT P md ops Q S n g (listed.setIfInBounds i true) a' w') Q) [o] a w) : wpAnyT P md ops Q S n (g + 1) listed a w :=
  ⟨fun h0 => (by rw [h0] at hr; cases hr), fun j hj => by
    rw [hr] at hj
    obtain rfl : j = i := by simpa using hj
    exact wpOp_of_list hi h⟩
theorem wpAnyT_two {n i j g : Nat} {o o' : Oper} {listed : Array Bool} {a : Act} {w : World} (hr : Region.ready md ops listed = [i, j]) (hi : ops[i]? = some o) (hj : ops[j]? = some o')
    (h1 : wpList P ops (Qk (fun a' w' => (i < n → S w') ∧ wpAnyT P md ops Q S n g (listed.setIfInBounds i true) a' w') Q) [o] a w)
    (h2 : wpList P ops (Qk (fun a' w' => (j < n → S w') ∧ wpAnyT P md ops Q S n g (listed.setIfInBounds j true) a' w') Q) [o'] a w) : wpAnyT P md ops Q S n (g + 1) listed a w :=
  ⟨fun h0 => (by rw [h0] at hr; cases hr), fun k hk => by
    rw [hr] at hk
    rcases List.mem_cons.1 hk with rfl | hk
    · exact wpOp_of_list hi h1
    · obtain rfl : k = j := by simpa using hk
      exact wpOp_of_list hj h2⟩
theorem wpAnyT_tail {n k : Nat} {listed : Array Bool} {a : Act} {w : World} : ∀ (l : List Oper) (k : Nat) (listed : Array Bool) (a : Act) (w : World), (∀ j, l[j]? = ops[k + j]?) → n ≤ k →
    Region.seqB md ops l.length k listed = true → wpList P ops Q l a w → wpAnyT P md ops Q S n l.length listed a w
  | [], _, _, _, _, _, _, hB, h => ⟨by simpa [Region.seqB] using hB, h⟩
  | o :: l, k, listed, a, w, hl, hnk, hB, h => by
    have h0 : ops[k]? = some o := by simpa using (hl 0).symm
    simp only [List.length_cons, Region.seqB, Bool.and_eq_true, decide_eq_true_eq] at hB
    refine ⟨fun h1 => (by rw [hB.1] at h1; cases h1), fun i hi => ?_⟩
    rw [hB.1] at hi
    have hik : i = k := by simpa using hi
    subst hik
    have hw : wpOp P ops Q i (wpList P ops Q l) a w := by unfold wpOp; simp only [h0]; exact h
    exact wpOp_mono (fun a' w' h' => ⟨fun hlt => absurd hlt (by omega), wpAnyT_tail (n := n) (k := k) (listed := listed) (a := a) (w := w) l (i + 1) _ a' w' (fun j => by have := hl (j + 1); simpa [Nat.add_assoc, Nat.add_comm 1 j] using this) (by omega) hB.2 h'⟩) hw
def startB (ops : Array Oper) (n : Nat) (l0 : Array Bool) : Bool :=
  Region.noSelect ops && (decide (n < ops.size) && (sinkB2 .any ops n l0 && (Region.chainB .any ops n && (closedB .any ops l0 && (decide (l0.size = ops.size) && (List.range ops.size).all fun t => decide (t < n) || !l0.getD t true)))))
theorem held_start {n : Nat} {l0 : Array Bool} (h : startB ops n l0 = true) : Held .any ops n l0 l0 := by
  unfold startB at h
  simp only [Bool.and_eq_true, decide_eq_true_eq] at h
  obtain ⟨h1, h2, h3, h4, h5, h6, h7⟩ := h
  exact ⟨h1, h3, h4, h2, h6, closedB_spec h5, fun t ht htlt => by
    rcases Bool.or_eq_true _ _ ▸ List.all_eq_true.1 h7 t (List.mem_range.2 htlt) with h1 | h1
    · exact absurd (of_decide_eq_true h1) (by omega)
    · simpa using h1, fun _ h => h⟩
theorem wpAnyT_batchL {l : List Oper} {n : Nat} (g : Nat) {l0 : Array Bool} (pk : List Oper → List Oper) (js : List Nat) {f : Nat} {listed : Array Bool} {a : Act} {w : World} (hf : f = js.length + g) (hQ : ∀ c a d v w, Q (.panic c) (Act.put a d v) w → Q (.panic c) a w) (hS : S w)
    (ho : js.map (fun j => l.toArray[j]?) = (pk l).map some) (hok : batchOk l.toArray js = true) (hH : Held md l.toArray n l0 listed) (hB : batchB md l.toArray n js listed = true)
    (h : wpQuiet P l.toArray S (fun a' => wpAnyT P md l.toArray Q S n g (marks js listed) a' w) (pk l) a) : wpAnyT P md l.toArray Q S n f listed a w := by
  subst hf
  exact wpAnyT_batch hQ hS js (pk l) listed a ho hok hH hB h
theorem wpAnyT_tailL {l : List Oper} {n : Nat} {f : Nat} {listed : Array Bool} {a : Act} {w : World} (hf : f = (l.drop n).length) (hB : Region.seqB md l.toArray f n listed = true) (h : wpList P l.toArray Q (l.drop n) a w) : wpAnyT P md l.toArray Q S n f listed a w := by
  subst hf
  exact wpAnyT_tail (n := n) (k := n) (listed := listed) (a := a) (w := w) (l.drop n) n listed a w (fun j => by simp [List.getElem?_drop]) (Nat.le_refl _) hB h
end
end Go.Proofs.YtbpoapfkeinjnaaGreatDoor.Qt
