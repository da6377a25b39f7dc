/- The engine of the yard and what it leans on, part 8. -/
import Derived.Test.YtbpoapfkeinjnaaGreatDoorK07
namespace Go.Proofs.YtbpoapfkeinjnaaGreatDoor.Ld
open Go.RowKit Go.Proofs.YtbpoapfkeinjnaaGreatDoorW.PrintWords Go.Proofs.YtbpoapfkeinjnaaGreatDoorW.PrintLast Go.Proofs.YtbpoapfkeinjnaaGreatDoorW.PrintMore
set_option linter.unusedVariables false
set_option linter.unusedSimpArgs false
attribute [local go_sem] max2_int min2_int max_two min_two
structure Ids (S : Nat → Prop) (w : World) (g o : Nat) (cs : Array Value) (ty : TypeId) (most : Int) (v : Value) (l : List Int) : Prop where
  off : o = 0 ∨ o = 2
  blk : w.heap[g]? = some (.cells cs ty (0, 0))
  c0 : cs[o]? = some (.int .i64 most)
  c1 : cs[o + 1]? = some v
  row : RowAt S w 3 1 v l.length (ints l)
  ty : 3 ≠ ty
theorem ints_len (l : List Int) : (ints l).length = l.length := encs_length l
theorem RowAt.ri {S : Nat → Prop} {w : World} {v : Value} {l : List Int} {n : Nat} (h : RowAt S w 3 1 v n (ints l)) : ∃ A c, v = .slice A n c ∧ RI w A l ∧ l.length = n := by
  have hl : l.length = n := by have := h.own.1; rw [ints_len] at this; omega
  obtain ⟨A, c, rfl, hr⟩ := RowAt.reads (d := (0 : Int)) (enc := Value.int .i64) h
  exact ⟨A, c, rfl, by unfold RI; rw [hl]; exact hr, hl⟩
theorem Ids.keep {S : Nat → Prop} {w w' : World} {g o : Nat} {cs : Array Value} {ty : TypeId} {most : Int} {v : Value} {l : List Int} (h : Ids S w g o cs ty most v l) (hg : S g) (hk : Keep S w w') : Ids S w' g o cs ty most v l := ⟨h.off, (hk g (blk_lt h.blk) hg).trans h.blk, h.c0, h.c1, h.row.keep hk, h.ty⟩

set_option maxHeartbeats 8000000 in
set_option maxRecDepth 100000 in
theorem has_calls {S : Nat → Prop} {g o : Nat} {cs : Array Value} {ty : TypeId} {most : Int} {v : Value} {l : List Int} (x : Int) (w : World) (h : Ids S w g o cs ty most v l) (hn : l.length ≤ 900) :
    Calls Tryz.prog 122 #[.pointer (some ⟨g, o, none⟩), .int .i64 x] w fun e w' => e = .returned (.bool (decide (0 ≤ indexI l x))) ∧ Drawn0 w w' := by
  obtain ⟨A, c, rfl, hr, _⟩ := h.row.ri
  have HR := Aside0.mk hr
  have c1 := (blk_cell h.blk (o + 1)).trans h.c1
  rcases h.off with rfl | rfl
  all_goals
    clear h hr
    go_enter Tryz.func122, Tryz.ntmps122
    go_wp2_with (go_at_call 151; (with_reducible refine (Contains_calls A l.length c l x _ HR.out rfl (by omega)).mono ?_); rintro e w1 ⟨rfl, hd⟩; have HD := Aside0.mk hd; clear hd)
    go_ret
    exact ⟨rfl, HD.out⟩
set_option maxHeartbeats 8000000 in
set_option maxRecDepth 100000 in
theorem all_calls {S : Nat → Prop} {g o : Nat} {cs : Array Value} {ty : TypeId} {most : Int} {v : Value} {l : List Int} (w : World) (h : Ids S w g o cs ty most v l) (hn : l.length ≤ 900) :
    Calls Tryz.prog 90 #[.pointer (some ⟨g, o, none⟩)] w (Copied w l.length l) := by
  obtain ⟨A, c, rfl, hr, _⟩ := h.row.ri
  have HR := Aside0.mk hr
  have c1 := (blk_cell h.blk (o + 1)).trans h.c1
  rcases h.off with rfl | rfl
  all_goals
    clear h hr
    go_enter Tryz.func90, Tryz.ntmps90
    go_wp2_with (go_at_call 68; (with_reducible refine (Clone_calls A l.length c l _ HR.out rfl (by omega)).mono ?_); rintro e w1 ⟨A6, c6, rfl, h6⟩; have H6 := Aside0.mk h6; clear h6)
    go_ret
    exact ⟨A6, c6, rfl, H6.out⟩
def AddPost (S : Nat → Prop) (g o : Nat) (cs : Array Value) (ty : TypeId) (most : Int) (v : Value) (l : List Int) (x : Int) (w : World) (e : Ending) (w' : World) : Prop :=
  (most ≤ (l.length : Int) ∧ e = .returned (.bool false) ∧ Drawn0 w w') ∨
  ((l.length : Int) < most ∧ e = .returned (.bool true) ∧ ∃ v6, Pushed S w w w' 3 1 v v6 (l.length + 1) (ints (l ++ [x])) g (cs.setIfInBounds (o + 1) v6) ty)
theorem Pushed.low {S : Nat → Prop} {w wb w7 : World} {e : TypeId} {sz : Nat} {v v6 : Value} {n' : Nat} {xs' : List Value} {g : Nat} {cs' : Array Value} {ty : TypeId} (h : Pushed S w wb w7 e sz v v6 n' xs' g cs' ty) (hb : w.heap.size ≤ wb.heap.size) : Pushed S w w w7 e sz v v6 n' xs' g cs' ty :=
  ⟨h.row, h.blk, h.chg, fun j h1 h2 => by omega, by have := h.lt; omega, h.hat⟩
set_option maxHeartbeats 8000000 in
set_option maxRecDepth 100000 in
theorem add_calls {S : Nat → Prop} {g o : Nat} {cs : Array Value} {ty : TypeId} {most : Int} {v : Value} {l : List Int} (x : Int) (w : World) (h : Ids S w g o cs ty most v l) (hn : l.length ≤ 900) :
    Calls Tryz.prog 73 #[.pointer (some ⟨g, o, none⟩), .int .i64 x] w (AddPost S g o cs ty most v l x w) := by
  obtain ⟨A, c, rfl, hr, _⟩ := h.row.ri
  have H := Aside0.mk h
  have c0 := (blk_cell h.blk o).trans h.c0
  have c1 := (blk_cell h.blk (o + 1)).trans h.c1
  by_cases hm : most ≤ (l.length : Int)
  · have hb : decide (most ≤ (l.length : Int)) = true := decide_eq_true hm
    rcases h.off with rfl | rfl
    all_goals
      clear h hr
      go_enter Tryz.func73, Tryz.ntmps73
      go_wp2
      go_quiet (fail)
      go_wp2
      go_ret
      exact .inl ⟨hm, rfl, ⟨_, rfl⟩⟩
  · have hb : decide (most ≤ (l.length : Int)) = false := decide_eq_false hm
    have HT := Aside0.mk h.ty
    rcases h.off with rfl | rfl
    · clear h hr
      go_enter Tryz.func73, Tryz.ntmps73
      go_wp2
      go_quiet (fail)
      have HB := Aside0.mk (pw_below_drewN (Below.refl w.heap.size w) nq)
      have c1 : (w.drewN nq).cell? ⟨g, 1, none⟩ = some (.slice A l.length c) := c1
      obtain ⟨w2, hw2⟩ : ∃ w2, w2 = w.drewN nq := ⟨_, rfl⟩
      rw [← hw2] at HB c1 ⊢
      clear hw2 c0
      go_wp2_with (at_builtin; go_loud (refine wp_push (S := S) (w := w) (wb := w2) (Value.int .i64) rfl (.tmp 19) (.tmp 21) 22 3 (.int .i64 0) 8 rfl Tryz.underlying22 info3 rfl (by decide) (.slice A l.length c) l x g 1 cs ty rfl rfl rfl H.out.row HB.out H.out.blk HT.out (by omega) ?_); (intro A6 c6 w6 hpre; have q1 := (blk_cell hpre.blk 1).trans H.out.c1; have q2 := blk_frozen hpre.blk 1; have HF := Aside0.mk hpre.post; clear hpre))
      go_ret
      exact .inr ⟨by omega, rfl, _, HF.out.low (by have := HB.out.size; omega)⟩
    · clear h hr
      go_enter Tryz.func73, Tryz.ntmps73
      go_wp2
      go_quiet (fail)
      have HB := Aside0.mk (pw_below_drewN (Below.refl w.heap.size w) nq)
      have c1 : (w.drewN nq).cell? ⟨g, 3, none⟩ = some (.slice A l.length c) := c1
      obtain ⟨w2, hw2⟩ : ∃ w2, w2 = w.drewN nq := ⟨_, rfl⟩
      rw [← hw2] at HB c1 ⊢
      clear hw2 c0
      go_wp2_with (at_builtin; go_loud (refine wp_push (S := S) (w := w) (wb := w2) (Value.int .i64) rfl (.tmp 19) (.tmp 21) 22 3 (.int .i64 0) 8 rfl Tryz.underlying22 info3 rfl (by decide) (.slice A l.length c) l x g 3 cs ty rfl rfl rfl H.out.row HB.out H.out.blk HT.out (by omega) ?_); (intro A6 c6 w6 hpre; have q1 := (blk_cell hpre.blk 3).trans H.out.c1; have q2 := blk_frozen hpre.blk 3; have HF := Aside0.mk hpre.post; clear hpre))
      go_ret
      exact .inr ⟨by omega, rfl, _, HF.out.low (by have := HB.out.size; omega)⟩
def DropPost (S : Nat → Prop) (g o : Nat) (cs : Array Value) (ty : TypeId) (v : Value) (l : List Int) (x : Int) (w : World) (e : Ending) (w' : World) : Prop :=
  (indexI l x < 0 ∧ e = .returned (.bool false) ∧ Drawn0 w w') ∨
  (0 ≤ indexI l x ∧ e = .returned (.bool true) ∧ ∃ v6, RowAt S w' 3 1 v6 (l.length - 1) (ints (l.eraseIdx (indexI l x).toNat)) ∧ w'.heap[g]? = some (.cells (cs.setIfInBounds (o + 1) v6) ty (0, 0)) ∧ Chg (fun k => k = g ∨ v.ownBlock = some k) w w' ∧ v6.ownBlock = v.ownBlock)
theorem Chg.of_drawn {S : Nat → Prop} {w w' : World} (h : Drawn0 w w') : Chg S w w' := Chg.of_below h.below S
set_option maxHeartbeats 8000000 in
set_option maxRecDepth 100000 in
theorem drop_calls {S : Nat → Prop} {g o : Nat} {cs : Array Value} {ty : TypeId} {most : Int} {v : Value} {l : List Int} (x : Int) (w : World) (h : Ids S w g o cs ty most v l) (hn : l.length ≤ 900) :
    Calls Tryz.prog 125 #[.pointer (some ⟨g, o, none⟩), .int .i64 x] w (DropPost S g o cs ty v l x w) := by
  obtain ⟨A, c, rfl, hr, _⟩ := h.row.ri
  have H := Aside0.mk h
  have HR := Aside0.mk hr
  have c1 := (blk_cell h.blk (o + 1)).trans h.c1
  have hne : ¬ (Value.slice A l.length c).ownBlock = some g := fun e => own_ne h.row.own h.blk h.ty e.symm
  rcases indexI_cases l x with ⟨hm, _⟩ | ⟨i, hm, hi, _⟩
  · have HM := Aside0.mk hm
    rcases h.off with rfl | rfl
    all_goals
      clear h hr hm
      go_enter Tryz.func125, Tryz.ntmps125
      go_wp2_with (go_at_call 154; (with_reducible refine (Index_calls A l.length c l x _ HR.out rfl (by omega)).mono ?_); rintro e w1 ⟨rfl, hd⟩; rw [HM.out]; have HD := Aside0.mk hd; clear hd)
      go_ret
      exact .inl ⟨by rw [HM.out]; decide, rfl, HD.out⟩
  · have HM := Aside0.mk hm
    have HROW := Aside0.mk (show RowAt (fun k => (Value.slice A l.length c).ownBlock = some k) w 3 1 (.slice A l.length c) l.length (ints l) from ⟨h.row.own, fun k hk => hk⟩)
    rcases h.off with rfl | rfl
    · clear h hr hm
      go_enter Tryz.func125, Tryz.ntmps125
      go_wp2_with (first
        | (go_at_call 154; (with_reducible refine (Index_calls A l.length c l x _ HR.out rfl (by omega)).mono ?_); rintro e w1 ⟨rfl, hd⟩; rw [HM.out]; have HD := Aside0.mk hd; have c1 := pw_cell_below hd.below c1; have HR1 := Aside0.mk (HROW.out.keep (Keep.of_below hd.below)); clear hd)
        | (go_at_call 155; (with_reducible refine (DeleteInt_calls l.length c i A l _ HR1.out hi (by omega)).mono ?_); rintro e w2 ⟨rfl, hr2, hc2⟩; have HST := Aside0.mk hr2; have HC2 := Aside0.mk ((Chg.of_drawn HD.out).trans hc2); have hgb := HC2.out.blk H.out.blk hne; have q1 := (blk_cell hgb 1).trans H.out.c1; have q2 := blk_frozen hgb 1; have HG := Aside0.mk hgb; clear hr2 hc2 hgb))
      go_ret
      refine .inr ⟨by rw [HM.out]; omega, rfl, .slice A (l.length - 1) c, ?_, blk_put HG.out 1 _ rfl, (HC2.out.mono (fun k hk => .inr hk)).set (.inl rfl) _ _, by cases A <;> rfl⟩
      rw [HM.out]
      exact ⟨own_setCell HST.out.own (p := ⟨g, 1, none⟩) (own_ne HST.out.own HG.out H.out.ty) _, fun k hk => H.out.row.fp k (HST.out.fp k hk)⟩
    · clear h hr hm
      go_enter Tryz.func125, Tryz.ntmps125
      go_wp2_with (first
        | (go_at_call 154; (with_reducible refine (Index_calls A l.length c l x _ HR.out rfl (by omega)).mono ?_); rintro e w1 ⟨rfl, hd⟩; rw [HM.out]; have HD := Aside0.mk hd; have c1 := pw_cell_below hd.below c1; have HR1 := Aside0.mk (HROW.out.keep (Keep.of_below hd.below)); clear hd)
        | (go_at_call 155; (with_reducible refine (DeleteInt_calls l.length c i A l _ HR1.out hi (by omega)).mono ?_); rintro e w2 ⟨rfl, hr2, hc2⟩; have HST := Aside0.mk hr2; have HC2 := Aside0.mk ((Chg.of_drawn HD.out).trans hc2); have hgb := HC2.out.blk H.out.blk hne; have q1 := (blk_cell hgb 3).trans H.out.c1; have q2 := blk_frozen hgb 3; have HG := Aside0.mk hgb; clear hr2 hc2 hgb))
      go_ret
      refine .inr ⟨by rw [HM.out]; omega, rfl, .slice A (l.length - 1) c, ?_, blk_put HG.out 3 _ rfl, (HC2.out.mono (fun k hk => .inr hk)).set (.inl rfl) _ _, by cases A <;> rfl⟩
      rw [HM.out]
      exact ⟨own_setCell HST.out.own (p := ⟨g, 3, none⟩) (own_ne HST.out.own HG.out H.out.ty) _, fun k hk => H.out.row.fp k (HST.out.fp k hk)⟩
end Go.Proofs.YtbpoapfkeinjnaaGreatDoor.Ld
namespace Go.Proofs.YtbpoapfkeinjnaaGreatDoor.Ld
open Go.RowKit Go.Proofs.YtbpoapfkeinjnaaGreatDoorW.PrintWords Go.Proofs.YtbpoapfkeinjnaaGreatDoorW.PrintLast Go.Proofs.YtbpoapfkeinjnaaGreatDoorW.PrintMore
set_option linter.unusedVariables false
set_option linter.unusedSimpArgs false
attribute [local go_sem] max2_int min2_int max_two min_two
structure Adm where
  m1 : Int
  l1 : List Int
  m2 : Int
  l2 : List Int
structure AdmP (S : Nat → Prop) (w : World) (g : Nat) (a : Adm) (v1 v2 : Value) : Prop where
  blk : w.heap[g]? = some (.cells #[.int .i64 a.m1, v1, .int .i64 a.m2, v2] 143 (0, 0))
  r1 : RowAt S w 3 1 v1 a.l1.length (ints a.l1)
  r2 : RowAt S w 3 1 v2 a.l2.length (ints a.l2)
  ap : ∀ k, v1.ownBlock = some k → v2.ownBlock ≠ some k
  fg : S g
def AdmAt (S : Nat → Prop) (w : World) (g : Nat) (a : Adm) : Prop := ∃ v1 v2, AdmP S w g a v1 v2
section
variable {S T : Nat → Prop} {w w' : World} {g : Nat} {a : Adm} {v1 v2 : Value}
theorem AdmP.keep (h : AdmP S w g a v1 v2) (hk : Keep S w w') : AdmP S w' g a v1 v2 := ⟨(hk g (blk_lt h.blk) h.fg).trans h.blk, h.r1.keep hk, h.r2.keep hk, h.ap, h.fg⟩
theorem AdmP.mono (h : AdmP S w g a v1 v2) (hs : ∀ k, k < w.heap.size → S k → T k) : AdmP T w g a v1 v2 := ⟨h.blk, h.r1.mono hs, h.r2.mono hs, h.ap, hs g (blk_lt h.blk) h.fg⟩
theorem AdmAt.keep (h : AdmAt S w g a) (hk : Keep S w w') : AdmAt S w' g a := by obtain ⟨v, ms, h⟩ := h; exact ⟨v, ms, h.keep hk⟩
theorem AdmAt.mono (h : AdmAt S w g a) (hs : ∀ k, k < w.heap.size → S k → T k) : AdmAt T w g a := by obtain ⟨v, ms, h⟩ := h; exact ⟨v, ms, h.mono hs⟩
theorem AdmP.ids1 (h : AdmP S w g a v1 v2) : Ids S w g 0 #[.int .i64 a.m1, v1, .int .i64 a.m2, v2] 143 a.m1 v1 a.l1 := ⟨.inl rfl, h.blk, rfl, rfl, h.r1, by decide⟩
theorem AdmP.ids2 (h : AdmP S w g a v1 v2) : Ids S w g 2 #[.int .i64 a.m1, v1, .int .i64 a.m2, v2] 143 a.m2 v2 a.l2 := ⟨.inr rfl, h.blk, rfl, rfl, h.r2, by decide⟩
theorem RowAt.other {b : Nat} {e : TypeId} {sz n : Nat} {v v' : Value} {xs : List Value} {cs : Array Value} {ty : TypeId} (h : RowAt S w e sz v n xs) (hc : Chg (fun k => k = b ∨ v'.ownBlock = some k) w w') (hb : w.heap[b]? = some (.cells cs ty (0, 0))) (ht : e ≠ ty) (hne : ∀ k, v.ownBlock = some k → v'.ownBlock ≠ some k) : RowAt S w' e sz v n xs :=
  ⟨own_same h.own fun k hk => hc.block k (own_lt h.own k hk) (fun hT => by
    rcases hT with rfl | hT
    · exact own_ne h.own hb ht hk.symm
    · exact hne k hk hT), h.fp⟩
theorem AdmP.push1 (h : AdmP S w g a v1 v2) {v6 : Value} {x : Int} (P : Pushed S w w w' 3 1 v1 v6 (a.l1.length + 1) (ints (a.l1 ++ [x])) g #[.int .i64 a.m1, v6, .int .i64 a.m2, v2] 143) :
    AdmP (up S w w') w' g { a with l1 := a.l1 ++ [x] } v6 v2 ∧ Chg S w w' := by
  refine ⟨⟨P.blk, by simpa using P.row, (h.r2.other P.chg h.blk (by decide) (fun k hk e => h.ap k e hk)).mono (fun k _ hk => .inl hk), fun k hk e => ?_, .inl h.fg⟩, P.chg.push h.fg h.r1⟩
  rcases P.hat with h1 | ⟨b, h1, hb⟩
  · exact h.ap k (h1 ▸ hk) e
  · rw [h1] at hk; injection hk with hk; have := own_lt h.r2.own k e; omega
theorem AdmP.push2 (h : AdmP S w g a v1 v2) {v6 : Value} {x : Int} (P : Pushed S w w w' 3 1 v2 v6 (a.l2.length + 1) (ints (a.l2 ++ [x])) g #[.int .i64 a.m1, v1, .int .i64 a.m2, v6] 143) :
    AdmP (up S w w') w' g { a with l2 := a.l2 ++ [x] } v1 v6 ∧ Chg S w w' := by
  refine ⟨⟨P.blk, (h.r1.other P.chg h.blk (by decide) h.ap).mono (fun k _ hk => .inl hk), by simpa using P.row, fun k hk e => ?_, .inl h.fg⟩, P.chg.push h.fg h.r2⟩
  rcases P.hat with h1 | ⟨b, h1, hb⟩
  · exact h.ap k hk (h1 ▸ e)
  · rw [h1] at e; injection e with e; have := own_lt h.r1.own k hk; omega
theorem erase_len (l : List Int) (i : Nat) (hi : i < l.length) : (l.eraseIdx i).length = l.length - 1 := by rw [List.length_eraseIdx, if_pos hi]
theorem AdmP.pull1 (h : AdmP S w g a v1 v2) {v6 : Value} {i : Nat} (hi : i < a.l1.length) (hr : RowAt S w' 3 1 v6 (a.l1.length - 1) (ints (a.l1.eraseIdx i))) (hb : w'.heap[g]? = some (.cells #[.int .i64 a.m1, v6, .int .i64 a.m2, v2] 143 (0, 0)))
    (hc : Chg (fun k => k = g ∨ v1.ownBlock = some k) w w') (hv : v6.ownBlock = v1.ownBlock) : AdmP S w' g { a with l1 := a.l1.eraseIdx i } v6 v2 ∧ Chg S w w' :=
  ⟨⟨hb, by rw [show ({ a with l1 := a.l1.eraseIdx i } : Adm).l1.length = a.l1.length - 1 from erase_len _ _ hi]; exact hr, h.r2.other hc h.blk (by decide) (fun k hk e => h.ap k e hk), fun k hk e => h.ap k (hv ▸ hk) e, h.fg⟩, hc.push h.fg h.r1⟩
theorem AdmP.pull2 (h : AdmP S w g a v1 v2) {v6 : Value} {i : Nat} (hi : i < a.l2.length) (hr : RowAt S w' 3 1 v6 (a.l2.length - 1) (ints (a.l2.eraseIdx i))) (hb : w'.heap[g]? = some (.cells #[.int .i64 a.m1, v1, .int .i64 a.m2, v6] 143 (0, 0)))
    (hc : Chg (fun k => k = g ∨ v2.ownBlock = some k) w w') (hv : v6.ownBlock = v2.ownBlock) : AdmP S w' g { a with l2 := a.l2.eraseIdx i } v1 v6 ∧ Chg S w w' :=
  ⟨⟨hb, h.r1.other hc h.blk (by decide) h.ap, by rw [show ({ a with l2 := a.l2.eraseIdx i } : Adm).l2.length = a.l2.length - 1 from erase_len _ _ hi]; exact hr, fun k hk e => h.ap k hk (hv ▸ e), h.fg⟩, hc.push h.fg h.r2⟩
end
def AdmOk (a : Adm) : Prop := a.l1.length ≤ 300 ∧ a.l2.length ≤ 300
def drop1 (l : List Int) (x : Int) : List Int := if indexI l x < 0 then l else l.eraseIdx (indexI l x).toNat
def add1 (m : Int) (l : List Int) (x : Int) : List Int := if m ≤ (l.length : Int) then l else l ++ [x]
def Row1 (S : Nat → Prop) (g : Nat) (a' : Adm) (b : Bool) (w : World) (e : Ending) (w' : World) : Prop := e = .returned (.bool b) ∧ AdmAt (up S w w') w' g a' ∧ Chg S w w'
theorem indexI_lt (l : List Int) (x : Int) (h : 0 ≤ indexI l x) : (indexI l x).toNat < l.length := by
  rcases indexI_cases l x with ⟨h1, _⟩ | ⟨i, h1, h2, _⟩ <;> omega
theorem has1 {S : Nat → Prop} {g : Nat} {a : Adm} (x : Int) (w : World) (h : AdmAt S w g a) (hn : AdmOk a) : Calls Tryz.prog 122 #[.pointer (some ⟨g, 0, none⟩), .int .i64 x] w fun e w' => e = .returned (.bool (decide (0 ≤ indexI a.l1 x))) ∧ Drawn0 w w' := by
  obtain ⟨v1, v2, h⟩ := h
  exact has_calls x w h.ids1 (by have := hn.1; omega)
theorem drop1_calls {S : Nat → Prop} {g : Nat} {a : Adm} (x : Int) (w : World) (h : AdmAt S w g a) (hn : AdmOk a) : Calls Tryz.prog 125 #[.pointer (some ⟨g, 0, none⟩), .int .i64 x] w (Row1 S g { a with l1 := drop1 a.l1 x } (decide (0 ≤ indexI a.l1 x)) w) := by
  obtain ⟨v1, v2, h⟩ := h
  refine (drop_calls x w h.ids1 (by have := hn.1; omega)).mono fun e w' hp => ?_
  rcases hp with ⟨hi, rfl, hd⟩ | ⟨hi, rfl, v6, hr, hb, hc, hv⟩
  · unfold drop1
    rw [if_pos hi]
    exact ⟨by rw [decide_eq_false (by omega)], ⟨v1, v2, (h.keep (Keep.of_below hd.below)).mono (fun k _ hk => .inl hk)⟩, Chg.of_drawn hd⟩
  · have hlt := indexI_lt _ _ hi
    have hp := h.pull1 hlt hr hb hc hv
    unfold drop1
    rw [if_neg (by omega)]
    exact ⟨by rw [decide_eq_true hi], ⟨_, _, hp.1.mono (fun k _ hk => .inl hk)⟩, hp.2⟩
theorem add1_calls {S : Nat → Prop} {g : Nat} {a : Adm} (x : Int) (w : World) (h : AdmAt S w g a) (hn : AdmOk a) : Calls Tryz.prog 73 #[.pointer (some ⟨g, 0, none⟩), .int .i64 x] w (Row1 S g { a with l1 := add1 a.m1 a.l1 x } (decide ((a.l1.length : Int) < a.m1)) w) := by
  obtain ⟨v1, v2, h⟩ := h
  refine (add_calls x w h.ids1 (by have := hn.1; omega)).mono fun e w' hp => ?_
  rcases hp with ⟨hi, rfl, hd⟩ | ⟨hi, rfl, v6, hp⟩
  · unfold add1
    rw [if_pos hi]
    exact ⟨by rw [decide_eq_false (by omega)], ⟨v1, v2, (h.keep (Keep.of_below hd.below)).mono (fun k _ hk => .inl hk)⟩, Chg.of_drawn hd⟩
  · have hp := h.push1 hp
    unfold add1
    rw [if_neg (by omega)]
    exact ⟨by rw [decide_eq_true hi], ⟨_, _, hp.1⟩, hp.2⟩
theorem has2 {S : Nat → Prop} {g : Nat} {a : Adm} (x : Int) (w : World) (h : AdmAt S w g a) (hn : AdmOk a) : Calls Tryz.prog 122 #[.pointer (some ⟨g, 2, none⟩), .int .i64 x] w fun e w' => e = .returned (.bool (decide (0 ≤ indexI a.l2 x))) ∧ Drawn0 w w' := by
  obtain ⟨v1, v2, h⟩ := h
  exact has_calls x w h.ids2 (by have := hn.2; omega)
theorem drop2_calls {S : Nat → Prop} {g : Nat} {a : Adm} (x : Int) (w : World) (h : AdmAt S w g a) (hn : AdmOk a) : Calls Tryz.prog 125 #[.pointer (some ⟨g, 2, none⟩), .int .i64 x] w (Row1 S g { a with l2 := drop1 a.l2 x } (decide (0 ≤ indexI a.l2 x)) w) := by
  obtain ⟨v1, v2, h⟩ := h
  refine (drop_calls x w h.ids2 (by have := hn.2; omega)).mono fun e w' hp => ?_
  rcases hp with ⟨hi, rfl, hd⟩ | ⟨hi, rfl, v6, hr, hb, hc, hv⟩
  · unfold drop1
    rw [if_pos hi]
    exact ⟨by rw [decide_eq_false (by omega)], ⟨v1, v2, (h.keep (Keep.of_below hd.below)).mono (fun k _ hk => .inl hk)⟩, Chg.of_drawn hd⟩
  · have hlt := indexI_lt _ _ hi
    have hp := h.pull2 hlt hr hb hc hv
    unfold drop1
    rw [if_neg (by omega)]
    exact ⟨by rw [decide_eq_true hi], ⟨_, _, hp.1.mono (fun k _ hk => .inl hk)⟩, hp.2⟩
theorem add2_calls {S : Nat → Prop} {g : Nat} {a : Adm} (x : Int) (w : World) (h : AdmAt S w g a) (hn : AdmOk a) : Calls Tryz.prog 73 #[.pointer (some ⟨g, 2, none⟩), .int .i64 x] w (Row1 S g { a with l2 := add1 a.m2 a.l2 x } (decide ((a.l2.length : Int) < a.m2)) w) := by
  obtain ⟨v1, v2, h⟩ := h
  refine (add_calls x w h.ids2 (by have := hn.2; omega)).mono fun e w' hp => ?_
  rcases hp with ⟨hi, rfl, hd⟩ | ⟨hi, rfl, v6, hp⟩
  · unfold add1
    rw [if_pos hi]
    exact ⟨by rw [decide_eq_false (by omega)], ⟨v1, v2, (h.keep (Keep.of_below hd.below)).mono (fun k _ hk => .inl hk)⟩, Chg.of_drawn hd⟩
  · have hp := h.push2 hp
    unfold add1
    rw [if_neg (by omega)]
    exact ⟨by rw [decide_eq_true hi], ⟨_, _, hp.1⟩, hp.2⟩
def stateI (a : Adm) (id : Int) : Int := if 0 ≤ indexI a.l1 id then 1 else 0
def stateB (a : Adm) (id : Int) : Bool := decide (0 ≤ indexI a.l1 id) || decide (0 ≤ indexI a.l2 id)
set_option maxHeartbeats 8000000 in
set_option maxRecDepth 100000 in
theorem AState_calls {S : Nat → Prop} {g : Nat} {a : Adm} (id : Int) (w : World) (h : AdmAt S w g a) (hn : AdmOk a) : Calls Tryz.prog 72 #[.pointer (some ⟨g, 0, none⟩), .int .i64 id] w fun e w' => e = .returned (.tuple #[.int .i64 (stateI a id), .bool (stateB a id)]) ∧ Drawn0 w w' := by
  have H := Aside0.mk h
  have HN := Aside0.mk hn
  clear h hn
  cases hb1 : decide (0 ≤ indexI a.l1 id) <;> cases hb2 : decide (0 ≤ indexI a.l2 id)
  all_goals
    have HB1 := Aside0.mk hb1
    have HB2 := Aside0.mk hb2
    clear hb1 hb2
    have E1 : Aside0 (stateI a id = if decide (0 ≤ indexI a.l1 id) then 1 else 0) := ⟨by unfold stateI; simp⟩
    have E2 : Aside0 (stateB a id = (decide (0 ≤ indexI a.l1 id) || decide (0 ≤ indexI a.l2 id))) := ⟨rfl⟩
    go_enter Tryz.func72, Tryz.ntmps72
    go_wp2_with (first
      | (go_at_call 122; (with_reducible refine (has1 (S := S) (a := a) id _ ?ha HN.out).mono ?_); (case ha => exact H.out); rintro e w1 ⟨rfl, hd⟩; rw [HB1.out]; have HD := Aside0.mk hd; clear hd)
      | (go_at_call 122; (with_reducible refine (has2 (S := S) (a := a) id _ ?ha HN.out).mono ?_); (case ha => exact H.out.keep (Keep.of_below HD.out.below)); rintro e w2 ⟨rfl, hd⟩; rw [HB2.out]; have HD2 := Aside0.mk (drawnT HD.out hd); clear hd))
    go_ret2
    exact ⟨by rw [E1.out, E2.out, HB1.out, HB2.out]; rfl, by first | exact HD2.out | exact HD.out⟩
theorem AState_r {S : Nat → Prop} {g : Nat} {a : Adm} {i : Int} {b : Bool} (id : Int) (h1 : stateI a id = i) (h2 : stateB a id = b) (w : World) (h : AdmAt S w g a) (hn : AdmOk a) : Calls Tryz.prog 72 #[.pointer (some ⟨g, 0, none⟩), .int .i64 id] w fun e w' => e = .returned (.tuple #[.int .i64 i, .bool b]) ∧ Drawn0 w w' := by
  subst h1 h2; exact AState_calls id w h hn
set_option maxHeartbeats 8000000 in
set_option maxRecDepth 100000 in
theorem Actives_calls {S : Nat → Prop} {g : Nat} {a : Adm} (w : World) (h : AdmAt S w g a) (hn : AdmOk a) : Calls Tryz.prog 50 #[.pointer (some ⟨g, 0, none⟩)] w (Copied w a.l1.length a.l1) := by
  obtain ⟨v1, v2, h⟩ := h
  have H := Aside0.mk h.ids1
  have hl := hn.1
  clear h hn
  go_enter Tryz.func50, Tryz.ntmps50
  go_wp2_with (go_at_call 90; (with_reducible refine (all_calls _ H.out (by omega)).mono ?_); rintro e w1 ⟨A6, c6, rfl, h6⟩; have H6 := Aside0.mk h6; clear h6)
  go_ret
  exact ⟨A6, c6, rfl, H6.out⟩
def admNew (m1 m2 : Int) : Adm := ⟨if m1 < 1 then 1 else m1, [], if m2 < 0 then 0 else m2, []⟩
set_option maxHeartbeats 8000000 in
set_option maxRecDepth 100000 in
theorem ANew_calls (m1 m2 : Int) (w : World) : Calls Tryz.prog 37 #[.int .i64 m1, .int .i64 m2] w fun e w' => e = .returned (.pointer (some ⟨w.heap.size, 0, none⟩)) ∧ AdmAt (fun k => k = w.heap.size) w' w.heap.size (admNew m1 m2) ∧ Below w.heap.size w w' := by
  by_cases h1 : m1 < 1 <;> by_cases h2 : m2 < 0
  all_goals
    have e1 : Aside0 (admNew m1 m2 = ⟨if m1 < 1 then 1 else m1, [], if m2 < 0 then 0 else m2, []⟩) := ⟨rfl⟩
    first | rw [if_pos h1] at e1 | rw [if_neg h1] at e1
    first | rw [if_pos h2] at e1 | rw [if_neg h2] at e1
    go_enter Tryz.func37, Tryz.ntmps37
    go_wp2
    go_ret
    exact ⟨rfl, by rw [e1.out]; exact ⟨.slice none 0 0, .slice none 0 0, heap_alloc_new w _, RowAt.nil _ _ _ _, RowAt.nil _ _ _ _, (fun k hk => by cases hk), rfl⟩, by repeat (first | exact Below.refl _ _ | apply below_alloc | apply below_drew1 | apply pw_below_drewN)⟩
end Go.Proofs.YtbpoapfkeinjnaaGreatDoor.Ld
namespace Go.Proofs.YtbpoapfkeinjnaaGreatDoor.Ld
open Go.RowKit Go.Proofs.YtbpoapfkeinjnaaGreatDoorW.PrintWords Go.Proofs.YtbpoapfkeinjnaaGreatDoorW.PrintLast Go.Proofs.YtbpoapfkeinjnaaGreatDoorW.PrintMore
set_option linter.unusedVariables false
set_option linter.unusedSimpArgs false
attribute [local go_sem] max2_int min2_int max_two min_two
def free1 (a : Adm) : Bool := decide ((a.l1.length : Int) < a.m1)
def free2 (a : Adm) : Bool := decide ((a.l2.length : Int) < a.m2)
def aAddI (a : Adm) (id : Int) : Int := if stateB a id then 0 else if free1 a then 1 else 0
def aAddE (a : Adm) (id : Int) : Int := if stateB a id then 8 else if free1 a then 0 else if free2 a then 0 else 4
def aAddSt (a : Adm) (id : Int) : Adm := if stateB a id then a else if free1 a then { a with l1 := a.l1 ++ [id] } else if free2 a then { a with l2 := a.l2 ++ [id] } else a
theorem free1_add (a : Adm) (x : Int) : add1 a.m1 a.l1 x = if free1 a then a.l1 ++ [x] else a.l1 := by
  unfold add1 free1
  by_cases h : (a.l1.length : Int) < a.m1
  · rw [if_neg (by omega), decide_eq_true h]; rfl
  · rw [if_pos (by omega), decide_eq_false h]; rfl
theorem free2_add (a : Adm) (x : Int) : add1 a.m2 a.l2 x = if free2 a then a.l2 ++ [x] else a.l2 := by
  unfold add1 free2
  by_cases h : (a.l2.length : Int) < a.m2
  · rw [if_neg (by omega), decide_eq_true h]; rfl
  · rw [if_pos (by omega), decide_eq_false h]; rfl
theorem add1_r {S : Nat → Prop} {g : Nat} {a : Adm} {b : Bool} (x : Int) (hb : free1 a = b) (w : World) (h : AdmAt S w g a) (hn : AdmOk a) : Calls Tryz.prog 73 #[.pointer (some ⟨g, 0, none⟩), .int .i64 x] w (Row1 S g { a with l1 := if b then a.l1 ++ [x] else a.l1 } b w) := by
  have := add1_calls x w h hn
  rw [free1_add, hb, show decide ((a.l1.length : Int) < a.m1) = b from hb] at this
  exact this
theorem add2_r {S : Nat → Prop} {g : Nat} {a : Adm} {b : Bool} (x : Int) (hb : free2 a = b) (w : World) (h : AdmAt S w g a) (hn : AdmOk a) : Calls Tryz.prog 73 #[.pointer (some ⟨g, 2, none⟩), .int .i64 x] w (Row1 S g { a with l2 := if b then a.l2 ++ [x] else a.l2 } b w) := by
  have := add2_calls x w h hn
  rw [free2_add, hb, show decide ((a.l2.length : Int) < a.m2) = b from hb] at this
  exact this
theorem up_two {S : Nat → Prop} {w w1 w2 : World} (h1 : w.heap.size ≤ w1.heap.size) (h2 : w1.heap.size ≤ w2.heap.size) : ∀ k, k < w2.heap.size → up (up S w w1) w1 w2 k → up S w w2 k := fun k _ h => up_up h1 h2 k h
theorem up_left {S : Nat → Prop} {w w1 w2 : World} (h1 : w.heap.size ≤ w1.heap.size) : ∀ k, k < w2.heap.size → up S w1 w2 k → up S w w2 k := fun k _ h => by
  rcases h with h | h
  · exact .inl h
  · exact .inr ⟨by omega, h.2⟩
set_option maxHeartbeats 8000000 in
set_option maxRecDepth 100000 in
theorem AAdd_calls {S : Nat → Prop} {g : Nat} {a : Adm} (id : Int) (w : World) (h : AdmAt S w g a) (hn : AdmOk a) :
    Calls Tryz.prog 41 #[.pointer (some ⟨g, 0, none⟩), .int .i64 id] w fun e w' => e = .returned (.tuple #[.int .i64 (aAddI a id), .int .i64 (aAddE a id)]) ∧ AdmAt (up S w w') w' g (aAddSt a id) ∧ Chg S w w' := by
  have H := Aside0.mk h
  have HN := Aside0.mk hn
  clear h hn
  cases hb0 : stateB a id
  · cases hb1 : free1 a
    · cases hb2 : free2 a
      all_goals
        obtain ⟨i0, hi0⟩ : ∃ i0, stateI a id = i0 := ⟨_, rfl⟩
        have HI := Aside0.mk hi0
        have HB0 := Aside0.mk hb0
        have HB1 := Aside0.mk hb1
        have HB2 := Aside0.mk hb2
        have E : Aside0 (aAddI a id = (if stateB a id then 0 else if free1 a then 1 else 0) ∧ aAddE a id = (if stateB a id then 8 else if free1 a then 0 else if free2 a then 0 else 4) ∧ aAddSt a id = if stateB a id then a else if free1 a then { a with l1 := a.l1 ++ [id] } else if free2 a then { a with l2 := a.l2 ++ [id] } else a) := ⟨⟨rfl, rfl, rfl⟩⟩
        rw [hb0, hb1, hb2] at E
        rw [E.out.1, E.out.2.1, E.out.2.2]
        clear hb0 hb1 hb2 hi0
        go_enter Tryz.func41, Tryz.ntmps41
        go_wp2_with (first
          | (go_at_call 72; (with_reducible refine (AState_r (S := S) (a := a) id HI.out HB0.out _ ?ha HN.out).mono ?_); (case ha => exact H.out); rintro e w1 ⟨rfl, hd⟩; have HD := Aside0.mk hd; have H1 := Aside0.mk (H.out.keep (Keep.of_below hd.below)); clear hd)
          | (go_at_call 73; (with_reducible refine (add1_r (S := S) (a := a) id HB1.out _ ?ha HN.out).mono ?_); (case ha => exact H1.out); rintro e w2 ⟨rfl, hA2, hc2⟩; have H2 := Aside0.mk hA2; have HC2 := Aside0.mk hc2; clear hA2 hc2)
          | (go_at_call 73; (with_reducible refine (add2_r (S := up S w1 w2) (a := a) id HB2.out _ ?ha HN.out).mono ?_); (case ha => exact H2.out); rintro e w3 ⟨rfl, hA3, hc3⟩; have H3 := Aside0.mk hA3; have HC3 := Aside0.mk hc3; clear hA3 hc3))
        go_ret2
        have s1 := HD.out.below.size
        have s2 := HC2.out.size
        have s3 := HC3.out.size
        exact ⟨rfl, (H3.out.mono (up_two s2 s3)).mono (up_left s1), (Chg.of_drawn HD.out).trans (HC2.out.then_up HC3.out)⟩
    · obtain ⟨i0, hi0⟩ : ∃ i0, stateI a id = i0 := ⟨_, rfl⟩
      have HI := Aside0.mk hi0
      have HB0 := Aside0.mk hb0
      have HB1 := Aside0.mk hb1
      have E : Aside0 (aAddI a id = (if stateB a id then 0 else if free1 a then 1 else 0) ∧ aAddE a id = (if stateB a id then 8 else if free1 a then 0 else if free2 a then 0 else 4) ∧ aAddSt a id = if stateB a id then a else if free1 a then { a with l1 := a.l1 ++ [id] } else if free2 a then { a with l2 := a.l2 ++ [id] } else a) := ⟨⟨rfl, rfl, rfl⟩⟩
      rw [hb0, hb1] at E
      rw [E.out.1, E.out.2.1, E.out.2.2]
      clear hb0 hb1 hi0
      go_enter Tryz.func41, Tryz.ntmps41
      go_wp2_with (first
        | (go_at_call 72; (with_reducible refine (AState_r (S := S) (a := a) id HI.out HB0.out _ ?ha HN.out).mono ?_); (case ha => exact H.out); rintro e w1 ⟨rfl, hd⟩; have HD := Aside0.mk hd; have H1 := Aside0.mk (H.out.keep (Keep.of_below hd.below)); clear hd)
        | (go_at_call 73; (with_reducible refine (add1_r (S := S) (a := a) id HB1.out _ ?ha HN.out).mono ?_); (case ha => exact H1.out); rintro e w2 ⟨rfl, hA2, hc2⟩; have H2 := Aside0.mk hA2; have HC2 := Aside0.mk hc2; clear hA2 hc2))
      go_ret2
      have s1 := HD.out.below.size
      exact ⟨rfl, H2.out.mono (up_left s1), (Chg.of_drawn HD.out).trans HC2.out⟩
  · obtain ⟨i0, hi0⟩ : ∃ i0, stateI a id = i0 := ⟨_, rfl⟩
    have HI := Aside0.mk hi0
    have HB0 := Aside0.mk hb0
    have E : Aside0 (aAddI a id = (if stateB a id then 0 else if free1 a then 1 else 0) ∧ aAddE a id = (if stateB a id then 8 else if free1 a then 0 else if free2 a then 0 else 4) ∧ aAddSt a id = if stateB a id then a else if free1 a then { a with l1 := a.l1 ++ [id] } else if free2 a then { a with l2 := a.l2 ++ [id] } else a) := ⟨⟨rfl, rfl, rfl⟩⟩
    rw [hb0] at E
    rw [E.out.1, E.out.2.1, E.out.2.2]
    clear hb0 hi0
    go_enter Tryz.func41, Tryz.ntmps41
    go_wp2_with (first
      | (go_at_call 72; (with_reducible refine (AState_r (S := S) (a := a) id HI.out HB0.out _ ?ha HN.out).mono ?_); (case ha => exact H.out); rintro e w1 ⟨rfl, hd⟩; have HD := Aside0.mk hd; have H1 := Aside0.mk (H.out.keep (Keep.of_below hd.below)); clear hd))
    go_ret2
    exact ⟨rfl, H1.out.mono (fun k _ hk => .inl hk), Chg.of_drawn HD.out⟩
def aNext (a : Adm) : Int := a.l2.getD 0 0
def aEndI (a : Adm) (id : Int) : Int := if 0 ≤ indexI a.l2 id then -1 else if indexI a.l1 id < 0 then 0 else if a.l2 = [] then -1 else aNext a
def aEndE (a : Adm) (id : Int) : Int := if 0 ≤ indexI a.l2 id then 0 else if indexI a.l1 id < 0 then 6 else 0
def aEndSt (a : Adm) (id : Int) : Adm := if 0 ≤ indexI a.l2 id then { a with l2 := drop1 a.l2 id } else if indexI a.l1 id < 0 then a else if a.l2 = [] then { a with l1 := drop1 a.l1 id } else
  { a with l1 := add1 a.m1 (drop1 a.l1 id) (aNext a), l2 := drop1 a.l2 (aNext a) }
theorem drop1_r {S : Nat → Prop} {g : Nat} {a : Adm} {b : Bool} (x : Int) (hb : decide (0 ≤ indexI a.l1 x) = b) (w : World) (h : AdmAt S w g a) (hn : AdmOk a) : Calls Tryz.prog 125 #[.pointer (some ⟨g, 0, none⟩), .int .i64 x] w (Row1 S g { a with l1 := drop1 a.l1 x } b w) := by subst hb; exact drop1_calls x w h hn
theorem drop2_r {S : Nat → Prop} {g : Nat} {a : Adm} {b : Bool} (x : Int) (hb : decide (0 ≤ indexI a.l2 x) = b) (w : World) (h : AdmAt S w g a) (hn : AdmOk a) : Calls Tryz.prog 125 #[.pointer (some ⟨g, 2, none⟩), .int .i64 x] w (Row1 S g { a with l2 := drop1 a.l2 x } b w) := by subst hb; exact drop2_calls x w h hn
theorem drop1_same {l : List Int} {x : Int} (h : ¬ 0 ≤ indexI l x) : drop1 l x = l := by unfold drop1; rw [if_pos (by omega)]
theorem drop1_len (l : List Int) (x : Int) : (drop1 l x).length ≤ l.length := by
  unfold drop1; split
  · exact Nat.le_refl _
  · rw [List.length_eraseIdx]; split <;> omega
theorem AdmAt.queue {S : Nat → Prop} {w : World} {g : Nat} {a : Adm} (h : AdmAt S w g a) : ∃ A c, w.cell? ⟨g, 3, none⟩ = some (.slice A a.l2.length c) ∧ RI w A a.l2 := by
  obtain ⟨v1, v2, h⟩ := h
  obtain ⟨A, c, rfl, hr, _⟩ := h.r2.ri
  exact ⟨A, c, (blk_cell h.blk 3).trans rfl, hr⟩
theorem head_in (l : List Int) (h : l ≠ []) : 0 ≤ indexI l (l.getD 0 0) := by
  rcases indexI_cases l (l.getD 0 0) with ⟨_, h1⟩ | ⟨i, h1, _⟩
  · exact absurd rfl (h1 0 (List.length_pos_iff.2 h))
  · omega
set_option maxHeartbeats 8000000 in
set_option maxRecDepth 100000 in
theorem AEnd_calls {S : Nat → Prop} {g : Nat} {a : Adm} (id : Int) (w : World) (h : AdmAt S w g a) (hn : AdmOk a) :
    Calls Tryz.prog 78 #[.pointer (some ⟨g, 0, none⟩), .int .i64 id] w fun e w' => e = .returned (.tuple #[.int .i64 (aEndI a id), .int .i64 (aEndE a id)]) ∧ AdmAt (up S w w') w' g (aEndSt a id) ∧ Chg S w w' := by
  have H := Aside0.mk h
  have HN := Aside0.mk hn
  clear h hn
  by_cases h2 : 0 ≤ indexI a.l2 id
  · have HB := Aside0.mk (decide_eq_true h2)
    have E : Aside0 (aEndI a id = -1 ∧ aEndE a id = 0 ∧ aEndSt a id = { a with l2 := drop1 a.l2 id }) := ⟨⟨if_pos h2, if_pos h2, if_pos h2⟩⟩
    rw [E.out.1, E.out.2.1, E.out.2.2]
    clear h2
    go_enter Tryz.func78, Tryz.ntmps78
    go_wp2_with (go_at_call 125; (with_reducible refine (drop2_r (S := S) (a := a) id HB.out _ ?ha HN.out).mono ?_); (case ha => exact H.out); rintro e w1 ⟨rfl, hA1, hc1⟩; have H1 := Aside0.mk hA1; have HC1 := Aside0.mk hc1; clear hA1 hc1)
    go_ret2
    exact ⟨rfl, H1.out, HC1.out⟩
  have HB2 := Aside0.mk (decide_eq_false h2)
  have HS2 := Aside0.mk (drop1_same h2)
  by_cases h1 : indexI a.l1 id < 0
  · have HB1 := Aside0.mk (decide_eq_false (show ¬ 0 ≤ indexI a.l1 id by omega))
    have HS1 := Aside0.mk (drop1_same (show ¬ 0 ≤ indexI a.l1 id by omega))
    have E : Aside0 (aEndI a id = 0 ∧ aEndE a id = 6 ∧ aEndSt a id = a) := ⟨⟨by unfold aEndI; rw [if_neg h2, if_pos h1], by unfold aEndE; rw [if_neg h2, if_pos h1], by unfold aEndSt; rw [if_neg h2, if_pos h1]⟩⟩
    rw [E.out.1, E.out.2.1, E.out.2.2]
    clear h2 h1
    go_enter Tryz.func78, Tryz.ntmps78
    go_wp2_with (first
      | (go_at_call 125; (with_reducible refine (drop2_r (S := S) (a := a) id HB2.out _ ?ha HN.out).mono ?_); (case ha => exact H.out); rintro e w1 ⟨rfl, hA1, hc1⟩; rw [HS2.out] at hA1; have H1 := Aside0.mk hA1; have HC1 := Aside0.mk hc1; clear hA1 hc1)
      | (go_at_call 125; (with_reducible refine (drop1_r (S := up S w w1) (a := a) id HB1.out _ ?ha HN.out).mono ?_); (case ha => exact H1.out); rintro e w2 ⟨rfl, hA2, hc2⟩; rw [HS1.out] at hA2; have H2 := Aside0.mk hA2; have HC2 := Aside0.mk hc2; clear hA2 hc2))
    go_ret2
    exact ⟨rfl, H2.out.mono (up_two HC1.out.size HC2.out.size), HC1.out.then_up HC2.out⟩
  have HB1 := Aside0.mk (decide_eq_true (show 0 ≤ indexI a.l1 id by omega))
  have HN1 := Aside0.mk (show AdmOk { a with l1 := drop1 a.l1 id } from ⟨Nat.le_trans (drop1_len _ _) HN.out.1, HN.out.2⟩)
  by_cases h3 : a.l2 = []
  · have E : Aside0 (aEndI a id = -1 ∧ aEndE a id = 0 ∧ aEndSt a id = { a with l1 := drop1 a.l1 id }) := ⟨⟨by unfold aEndI; rw [if_neg h2, if_neg h1, if_pos h3], by unfold aEndE; rw [if_neg h2, if_neg h1], by unfold aEndSt; rw [if_neg h2, if_neg h1, if_pos h3]⟩⟩
    rw [E.out.1, E.out.2.1, E.out.2.2]
    have HL := Aside0.mk (show a.l2.length = 0 by rw [h3]; rfl)
    clear h2 h1 h3
    go_enter Tryz.func78, Tryz.ntmps78
    go_wp2_with (first
      | (go_at_call 125; (with_reducible refine (drop2_r (S := S) (a := a) id HB2.out _ ?ha HN.out).mono ?_); (case ha => exact H.out); rintro e w1 ⟨rfl, hA1, hc1⟩; rw [HS2.out] at hA1; have H1 := Aside0.mk hA1; have HC1 := Aside0.mk hc1; clear hA1 hc1)
      | (go_at_call 125; (with_reducible refine (drop1_r (S := up S w w1) (a := a) id HB1.out _ ?ha HN.out).mono ?_); (case ha => exact H1.out); rintro e w2 ⟨rfl, hA2, hc2⟩; have H2 := Aside0.mk hA2; have HC2 := Aside0.mk hc2; obtain ⟨AQ, cq, hq, hrq⟩ := hA2.queue; rw [show ({ a with l1 := drop1 a.l1 id } : Adm).l2.length = 0 from HL.out] at hq; clear hA2 hc2 hrq))
    go_ret2
    exact ⟨rfl, H2.out.mono (up_two HC1.out.size HC2.out.size), HC1.out.then_up HC2.out⟩
  · have E : Aside0 (aEndI a id = aNext a ∧ aEndE a id = 0 ∧ aEndSt a id = { a with l1 := add1 a.m1 (drop1 a.l1 id) (aNext a), l2 := drop1 a.l2 (aNext a) }) := ⟨⟨by unfold aEndI; rw [if_neg h2, if_neg h1, if_neg h3], by unfold aEndE; rw [if_neg h2, if_neg h1], by unfold aEndSt; rw [if_neg h2, if_neg h1, if_neg h3]⟩⟩
    rw [E.out.1, E.out.2.1, E.out.2.2]
    have hl := List.length_pos_iff.2 h3
    obtain ⟨N, hN⟩ : ∃ N, a.l2.length = N + 1 := ⟨a.l2.length - 1, by omega⟩
    have HL := Aside0.mk hN
    obtain ⟨x, hx⟩ : ∃ x, a.l2.getD 0 0 = x := ⟨_, rfl⟩
    have HX := Aside0.mk hx
    have HXN := Aside0.mk (show aNext a = x from hx)
    have HB3 := Aside0.mk (decide_eq_true (show 0 ≤ indexI a.l2 x by rw [← hx]; exact head_in _ h3))
    have HN2 := Aside0.mk (show AdmOk { a with l1 := drop1 a.l1 id, l2 := drop1 a.l2 x } from ⟨Nat.le_trans (drop1_len _ _) HN.out.1, Nat.le_trans (drop1_len _ _) HN.out.2⟩)
    have hN3 := HN.out.2
    rw [hN] at hN3
    rw [HXN.out]
    clear h2 h1 h3 hl hN hx
    go_enter Tryz.func78, Tryz.ntmps78
    go_wp2_with (first
      | (go_at_call 125; (with_reducible refine (drop2_r (S := S) (a := a) id HB2.out _ ?ha HN.out).mono ?_); (case ha => exact H.out); rintro e w1 ⟨rfl, hA1, hc1⟩; rw [HS2.out] at hA1; have H1 := Aside0.mk hA1; have HC1 := Aside0.mk hc1; clear hA1 hc1)
      | (go_at_call 125; (with_reducible refine (drop1_r (S := up S w w1) (a := a) id HB1.out _ ?ha HN.out).mono ?_); (case ha => exact H1.out); rintro e w2 ⟨rfl, hA2, hc2⟩; have H2 := Aside0.mk hA2; have HC2 := Aside0.mk hc2; obtain ⟨AQ, cq, hq, hrq⟩ := hA2.queue; rw [show ({ a with l1 := drop1 a.l1 id } : Adm).l2.length = N + 1 from HL.out] at hq; obtain ⟨ad, rfl, dq⟩ := hrq.at_ 0 (by show 0 < a.l2.length; rw [HL.out]; omega); rw [show ({ a with l1 := drop1 a.l1 id } : Adm).l2.getD 0 0 = x from HX.out] at dq; have dq0 : w2.cell? ad = some (.int .i64 x) := dq; clear hA2 hc2 hrq dq)
      | (go_at_call 125; (with_reducible refine (drop2_r (S := up (up S w w1) w1 w2) (a := { a with l1 := drop1 a.l1 id }) x HB3.out _ ?ha HN1.out).mono ?_); (case ha => exact H2.out); rintro e w3 ⟨rfl, hA3, hc3⟩; have H3 := Aside0.mk hA3; have HC3 := Aside0.mk hc3; clear hA3 hc3)
      | (go_at_call 73; (with_reducible refine (add1_calls (S := up (up (up S w w1) w1 w2) w2 w3) (a := { a with l1 := drop1 a.l1 id, l2 := drop1 a.l2 x }) x _ ?ha HN2.out).mono ?_); (case ha => exact H3.out); rintro e w4 ⟨rfl, hA4, hc4⟩; have H4 := Aside0.mk hA4; have HC4 := Aside0.mk hc4; clear hA4 hc4))
    go_ret2
    refine ⟨rfl, ((H4.out.mono (up_two HC3.out.size HC4.out.size)).mono (up_two HC2.out.size (Nat.le_trans HC3.out.size HC4.out.size))).mono (up_two HC1.out.size (Nat.le_trans HC2.out.size (Nat.le_trans HC3.out.size HC4.out.size))), ?_⟩
    exact HC1.out.then_up (HC2.out.then_up (HC3.out.then_up HC4.out))
end Go.Proofs.YtbpoapfkeinjnaaGreatDoor.Ld
