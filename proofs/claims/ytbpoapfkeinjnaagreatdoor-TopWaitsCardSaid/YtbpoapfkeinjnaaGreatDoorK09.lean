/- The engine of the yard and what it leans on, part 9. -/
import Derived.Test.YtbpoapfkeinjnaaGreatDoorK08
namespace Go.Proofs.YtbpoapfkeinjnaaGreatDoor.Ld
open Go.RowKit Go.Proofs.YtbpoapfkeinjnaaGreatDoorW.PrintWords Go.Proofs.YtbpoapfkeinjnaaGreatDoorW.PrintLast Go.Proofs.YtbpoapfkeinjnaaGreatDoorW.PrintMore
set_option linter.unusedVariables false
set_option linter.unusedSimpArgs false
attribute [local go_sem] max2_int min2_int max_two min_two
structure Hp where
  l : List Int
  at_ : List Int
  keys : List Int
structure HpP (S : Nat → Prop) (w : World) (h : Nat) (p : Hp) (vl va vk : Value) : Prop where
  blk : w.heap[h]? = some (.cells #[vl, va, vk] 179 (0, 0))
  rl : RowAt S w 3 1 vl p.l.length (ints p.l)
  ra : RowAt S w 3 1 va p.at_.length (ints p.at_)
  rk : RowAt S w 3 1 vk p.keys.length (ints p.keys)
  la : ∀ k, vl.ownBlock = some k → va.ownBlock ≠ some k
  lk : ∀ k, vl.ownBlock = some k → vk.ownBlock ≠ some k
  ak : ∀ k, va.ownBlock = some k → vk.ownBlock ≠ some k
  fg : S h
def HpAt (S : Nat → Prop) (w : World) (h : Nat) (p : Hp) : Prop := ∃ vl va vk, HpP S w h p vl va vk
theorem sumTo_congr {f g : Nat → Nat} {n : Nat} (h : ∀ i, i < n → f i = g i) : sumTo f n = sumTo g n :=
  Nat.le_antisymm (sumTo_le fun i hi => Nat.le_of_eq (h i hi)) (sumTo_le fun i hi => Nat.le_of_eq (h i hi).symm)
theorem sumTo_one {f g : Nat → Nat} {n k : Nat} (hk : k < n) (h1 : g k = f k + 1) (h : ∀ i, i < n → i ≠ k → f i = g i) : sumTo g n = sumTo f n + 1 := by
  induction n with
  | zero => omega
  | succ n ih =>
    show sumTo g n + g n = sumTo f n + f n + 1
    by_cases e : k = n
    · subst e
      rw [sumTo_congr (f := g) (g := f) (fun i hi => (h i (by omega) (by omega)).symm)]
      omega
    · have := ih (by omega) (fun i hi => h i (by omega))
      have := h n (by omega) (fun e2 => e e2.symm)
      omega
def onN (p : Hp) (j : Nat) : Nat := if 0 ≤ p.at_.getD j 0 then 1 else 0
structure HpInv (p : Hp) : Prop where
  len : p.keys.length = p.at_.length
  l1 : ∀ i, i < p.l.length → ∃ j : Nat, p.l.getD i 0 = (j : Int) ∧ j < p.at_.length ∧ p.at_.getD j 0 = (i : Int)
  l2 : ∀ j, j < p.at_.length → p.at_.getD j 0 = -1 ∨ ∃ i : Nat, i < p.l.length ∧ p.at_.getD j 0 = (i : Int) ∧ p.l.getD i 0 = (j : Int)
  cnt : p.l.length = sumTo (onN p) p.at_.length
theorem HpInv.le {p : Hp} (h : HpInv p) : p.l.length ≤ p.at_.length := by
  rw [h.cnt]
  have := sumTo_bd (f := onN p) (n := p.at_.length) (B := 1) (fun i _ => by unfold onN; split <;> omega)
  omega
section
variable {S T : Nat → Prop} {w w' : World} {h : Nat} {p : Hp} {vl va vk : Value}
theorem HpP.keep (H : HpP S w h p vl va vk) (hk : Keep S w w') : HpP S w' h p vl va vk := ⟨(hk h (blk_lt H.blk) H.fg).trans H.blk, H.rl.keep hk, H.ra.keep hk, H.rk.keep hk, H.la, H.lk, H.ak, H.fg⟩
theorem HpP.mono (H : HpP S w h p vl va vk) (hs : ∀ k, k < w.heap.size → S k → T k) : HpP T w h p vl va vk := ⟨H.blk, H.rl.mono hs, H.ra.mono hs, H.rk.mono hs, H.la, H.lk, H.ak, hs h (blk_lt H.blk) H.fg⟩
theorem HpAt.keep (H : HpAt S w h p) (hk : Keep S w w') : HpAt S w' h p := by obtain ⟨a, b, c, H⟩ := H; exact ⟨a, b, c, H.keep hk⟩
theorem HpAt.mono (H : HpAt S w h p) (hs : ∀ k, k < w.heap.size → S k → T k) : HpAt T w h p := by obtain ⟨a, b, c, H⟩ := H; exact ⟨a, b, c, H.mono hs⟩
theorem RowAt.some_ {e : TypeId} {v : Value} {n : Nat} {l : List Int} (H : RowAt S w e 1 v n (ints l)) (i : Nat) (hi : i < n) : ∃ b c, v = .slice (some ⟨b, 0, none⟩) n c ∧ w.cell? ⟨b, i, none⟩ = some (.int .i64 (l.getD i 0)) ∧ w.frozen? ⟨b, i, none⟩ = false := by
  obtain ⟨b, c, rfl, _, _⟩ := H.own.form (by omega)
  have := H.int_at (i : Int) (by omega) (by omega)
  rw [show rd l (i : Int) = l.getD i 0 from rfl, Int.toNat_natCast] at this
  exact ⟨b, c, rfl, this⟩
theorem HpP.setL {b c : Nat} (H : HpP S w h p (.slice (some ⟨b, 0, none⟩) p.l.length c) va vk) (i : Nat) (x : Int) :
    HpP S (w.setCell ⟨b, i, none⟩ (.int .i64 x)) h { p with l := p.l.set i x } (.slice (some ⟨b, 0, none⟩) p.l.length c) va vk ∧ S b := by
  have hne : h ≠ b := fun e => own_ne H.rl.own H.blk (by decide) (by rw [e]; rfl)
  refine ⟨⟨blk_far H.blk hne _, ?_, ⟨own_setCell H.ra.own (fun e => H.la b rfl e.symm) _, H.ra.fp⟩, ⟨own_setCell H.rk.own (fun e => H.lk b rfl e.symm) _, H.rk.fp⟩, H.la, H.lk, H.ak, H.fg⟩, H.rl.fp b rfl⟩
  rw [show ({ p with l := p.l.set i x } : Hp).l.length = p.l.length by simp]
  exact H.rl.int_put (i : Int) x
theorem HpP.setA {b c : Nat} (H : HpP S w h p vl (.slice (some ⟨b, 0, none⟩) p.at_.length c) vk) (i : Nat) (x : Int) :
    HpP S (w.setCell ⟨b, i, none⟩ (.int .i64 x)) h { p with at_ := p.at_.set i x } vl (.slice (some ⟨b, 0, none⟩) p.at_.length c) vk ∧ S b := by
  have hne : h ≠ b := fun e => own_ne H.ra.own H.blk (by decide) (by rw [e]; rfl)
  refine ⟨⟨blk_far H.blk hne _, ⟨own_setCell H.rl.own (fun e => H.la b e.symm rfl) _, H.rl.fp⟩, ?_, ⟨own_setCell H.rk.own (fun e => H.ak b rfl e.symm) _, H.rk.fp⟩, H.la, H.lk, H.ak, H.fg⟩, H.ra.fp b rfl⟩
  rw [show ({ p with at_ := p.at_.set i x } : Hp).at_.length = p.at_.length by simp]
  exact H.ra.int_put (i : Int) x
theorem HpP.setK {b c : Nat} (H : HpP S w h p vl va (.slice (some ⟨b, 0, none⟩) p.keys.length c)) (i : Nat) (x : Int) :
    HpP S (w.setCell ⟨b, i, none⟩ (.int .i64 x)) h { p with keys := p.keys.set i x } vl va (.slice (some ⟨b, 0, none⟩) p.keys.length c) ∧ S b := by
  have hne : h ≠ b := fun e => own_ne H.rk.own H.blk (by decide) (by rw [e]; rfl)
  refine ⟨⟨blk_far H.blk hne _, ⟨own_setCell H.rl.own (fun e => H.lk b e.symm rfl) _, H.rl.fp⟩, ⟨own_setCell H.ra.own (fun e => H.ak b e.symm rfl) _, H.ra.fp⟩, ?_, H.la, H.lk, H.ak, H.fg⟩, H.rk.fp b rfl⟩
  rw [show ({ p with keys := p.keys.set i x } : Hp).keys.length = p.keys.length by simp]
  exact H.rk.int_put (i : Int) x
end
def swapL (p : Hp) (i k : Nat) : Hp := { p with l := (p.l.set i (p.l.getD k 0)).set k (p.l.getD i 0), at_ := (p.at_.set (p.l.getD k 0).toNat (i : Int)).set (p.l.getD i 0).toNat (k : Int) }

set_option maxHeartbeats 8000000 in
set_option maxRecDepth 100000 in
theorem Swap_far (S : Nat → Prop) (h : Nat) (p : Hp) (i k : Nat) (w : World) (H : HpAt S w h p) (hv : HpInv p) (hi : i < p.l.length) (hk : k < p.l.length) (hn : p.at_.length ≤ 1000) (hln : p.l.length ≤ 1000) (hik : i ≠ k) :
    Calls Tryz.prog 202 #[.pointer (some ⟨h, 0, none⟩), .int .i64 (i : Int), .int .i64 (k : Int)] w fun e w' => e = .returned (.tuple #[]) ∧ HpAt S w' h (swapL p i k) ∧ Chg S w w' := by
  obtain ⟨vl, va, vk, HP⟩ := H
  obtain ⟨x, hx, hxn, hxa⟩ := hv.l1 i hi
  obtain ⟨y, hy, hyn, hya⟩ := hv.l1 k hk
  obtain ⟨b, c, rfl, ci, fi⟩ := HP.rl.some_ i hi
  obtain ⟨_, _, e, ck, fk⟩ := HP.rl.some_ k hk
  injection e with e1 e2 e3; injection e1 with e1; injection e1 with e1; subst e1 e3
  obtain ⟨ba, ca, rfl, cx, fx⟩ := HP.ra.some_ x hxn
  obtain ⟨_, _, e, cy, fy⟩ := HP.ra.some_ y hyn
  injection e with e1 e2 e3; injection e1 with e1; injection e1 with e1; subst e1 e3
  have hb : b ≠ ba := fun e => HP.la b rfl (by rw [e]; rfl)
  have hhb : h ≠ b := fun e => own_ne HP.rl.own HP.blk (by decide) (by rw [e]; rfl)
  have hha : h ≠ ba := fun e => own_ne HP.ra.own HP.blk (by decide) (by rw [e]; rfl)
  have c0 : w.cell? ⟨h, 0, none⟩ = some (.slice (some ⟨b, 0, none⟩) p.l.length c) := (blk_cell HP.blk 0).trans rfl
  have c1 : w.cell? ⟨h, 1, none⟩ = some (.slice (some ⟨ba, 0, none⟩) p.at_.length ca) := (blk_cell HP.blk 1).trans rfl
  rw [hx] at ci
  rw [hy] at ck
  have hxy : x ≠ y := fun e => hik (by rw [e, hya] at hxa; omega)
  have HPA := Aside0.mk HP
  have HX := Aside0.mk hx
  have HY := Aside0.mk hy
  obtain ⟨L, hL⟩ : ∃ L, p.l.length = L := ⟨_, rfl⟩
  obtain ⟨N, hN⟩ : ∃ N, p.at_.length = N := ⟨_, rfl⟩
  rw [hL] at c0 hi hk hln
  rw [hN] at c1 hxn hyn hn
  have HL := Aside0.mk hL
  have HN := Aside0.mk hN
  clear hL hN hx hy HP hv hxa hya
  have q1 : (0 ≤ (i : Int)) = True := eq_true (by omega)
  have q2 : (0 ≤ (k : Int)) = True := eq_true (by omega)
  have q3 : ((i : Int) < (L : Int)) = True := eq_true (by omega)
  have q4 : ((k : Int) < (L : Int)) = True := eq_true (by omega)
  have q5 : (0 ≤ (x : Int)) = True := eq_true (by omega)
  have q6 : (0 ≤ (y : Int)) = True := eq_true (by omega)
  have q7 : ((x : Int) < (N : Int)) = True := eq_true (by omega)
  have q8 : ((y : Int) < (N : Int)) = True := eq_true (by omega)
  have r1 : (i = k) = False := eq_false hik
  have r2 : (k = i) = False := eq_false (Ne.symm hik)
  have r3 : (x = y) = False := eq_false hxy
  have r4 : (y = x) = False := eq_false (Ne.symm hxy)
  have r5 : (b = ba) = False := eq_false hb
  have r6 : (ba = b) = False := eq_false (Ne.symm hb)
  have r7 : (h = b) = False := eq_false hhb
  have r8 : (h = ba) = False := eq_false hha
  have r9 : (b = h) = False := eq_false (Ne.symm hhb)
  have r0 : (ba = h) = False := eq_false (Ne.symm hha)
  clear hik hxy hb hhb hha
  go_enter Tryz.func202, Tryz.ntmps202
  go_wp2
  refine wp_region_any (by kernel_rfl) ?_
  refine wpAny_take (i := 9) (v := .int .i64 (k : Int)) rfl (by kernel_rfl) (by kernel_rfl) (by kernel_rfl) (fun _ _ _ h => h) (Or.inl ⟨rfl, fun w => rfl⟩) ?_
  refine Qt.wpAny_quiet_tail 24 (List.range 9 ++ (List.range 14).map (· + 10)) (fun l => l.take 9 ++ (l.drop 10).take 14) _ _ rfl rfl (by kernel_rfl) ?_
  simp only [List.take_succ_cons, List.take_zero, List.drop_succ_cons, List.drop_zero, List.cons_append, List.nil_append, Act.put, List.getElem_toArray, List.getElem_cons_succ, List.getElem_cons_zero, List.setIfInBounds_toArray, List.set_cons_succ, List.set_cons_zero]
  repeat (go_big_quiet_step ((fail)))
  refine wpQuiet_nil ?_
  intro w9 hw9
  obtain ⟨m9, rfl⟩ := hw9
  go_wp2
  obtain ⟨w2, hw2⟩ : ∃ w2, w2 = ((w.drewN (1 + m9)).setCell ⟨b, i, none⟩ (.int .i64 (y : Int))).setCell ⟨b, k, none⟩ (.int .i64 (x : Int)) := ⟨_, rfl⟩
  have H1 := HPA.out.setL i (y : Int)
  have H1' : HpP S (w.setCell ⟨b, i, none⟩ (.int .i64 (y : Int))) h { p with l := p.l.set i (y : Int) } (.slice (some ⟨b, 0, none⟩) ({ p with l := p.l.set i (y : Int) } : Hp).l.length c) (.slice (some ⟨ba, 0, none⟩) p.at_.length ca) vk := by
    rw [show ({ p with l := p.l.set i (y : Int) } : Hp).l.length = p.l.length by simp]; exact H1.1
  have H2 := H1'.setL k (x : Int)
  rw [show ({ p with l := p.l.set i (y : Int) } : Hp).l.length = p.l.length by simp] at H2
  have HP2 := Aside0.mk (show HpP S w2 h { p with l := (p.l.set i (y : Int)).set k (x : Int) } (.slice (some ⟨b, 0, none⟩) p.l.length c) (.slice (some ⟨ba, 0, none⟩) p.at_.length ca) vk by rw [hw2]; exact H2.1.keep (fun k _ _ => rfl))
  have HC2 := Aside0.mk (show Chg S w w2 by rw [hw2]; exact ((((Chg.refl S w).drewN _).set H1.2 _ _).set H1.2 _ _))
  have z0 : w2.cell? ⟨h, 0, none⟩ = some (.slice (some ⟨b, 0, none⟩) L c) := by have := (blk_cell HP2.out.blk 0).trans rfl; rwa [HL.out] at this
  have z1 : w2.cell? ⟨h, 1, none⟩ = some (.slice (some ⟨ba, 0, none⟩) N ca) := by have := (blk_cell HP2.out.blk 1).trans rfl; rwa [HN.out] at this
  have hr2 : RowAt S w2 3 1 (.slice (some ⟨b, 0, none⟩) L c) L (ints ((p.l.set i (y : Int)).set k (x : Int))) := by
    have := HP2.out.rl
    rw [show ({ p with l := (p.l.set i (y : Int)).set k (x : Int) } : Hp).l.length = p.l.length by simp, HL.out] at this
    exact this
  have z2 : w2.cell? ⟨b, i, none⟩ = some (.int .i64 (y : Int)) := by
    have := (hr2.int_at (i : Int) (by omega) (by omega)).1
    rw [Int.toNat_natCast] at this
    rw [this]
    have hl : i < p.l.length := HL.out ▸ hi
    simp [rd, List.getElem?_set, hl, r2]
  have z3 : w2.cell? ⟨b, k, none⟩ = some (.int .i64 (x : Int)) := by
    have := (hr2.int_at (k : Int) (by omega) (by omega)).1
    rw [Int.toNat_natCast] at this
    rw [this]
    have hl : k < p.l.length := HL.out ▸ hk
    simp [rd, List.getElem?_set, hl]
  have z4 : w2.cell? ⟨ba, x, none⟩ = some (.int .i64 (p.at_.getD x 0)) := (HP2.out.ra.int_at (x : Int) (by omega) (by rw [HN.out]; omega)).1
  have z5 : w2.cell? ⟨ba, y, none⟩ = some (.int .i64 (p.at_.getD y 0)) := (HP2.out.ra.int_at (y : Int) (by omega) (by rw [HN.out]; omega)).1
  have z6 : w2.frozen? ⟨ba, x, none⟩ = false := (HP2.out.ra.int_at (x : Int) (by omega) (by rw [HN.out]; omega)).2
  have z7 : w2.frozen? ⟨ba, y, none⟩ = false := (HP2.out.ra.int_at (y : Int) (by omega) (by rw [HN.out]; omega)).2
  rw [← hw2]
  clear hr2 hw2 H1 H1' H2 ci fi ck fk cx fx cy fy c0 c1
  go_wp2
  refine wp_region_any (by kernel_rfl) ?_
  refine wpAny_take (i := 22) (v := .int .i64 (i : Int)) rfl (by kernel_rfl) (by kernel_rfl) (by kernel_rfl) (fun _ _ _ h => h) (Or.inl ⟨rfl, fun w => rfl⟩) ?_
  refine wpAny_take (i := 23) (v := .int .i64 (k : Int)) rfl (by kernel_rfl) (by kernel_rfl) (by kernel_rfl) (fun _ _ _ h => h) (Or.inl ⟨rfl, fun w => rfl⟩) ?_
  refine Qt.wpAny_quiet_tail 24 (List.range 22) (fun l => l.take 22) _ _ rfl rfl (by kernel_rfl) ?_
  simp only [List.take_succ_cons, List.take_zero, List.drop_succ_cons, List.drop_zero, List.cons_append, List.nil_append, Act.put, List.getElem_toArray, List.getElem_cons_succ, List.getElem_cons_zero, List.setIfInBounds_toArray, List.set_cons_succ, List.set_cons_zero]
  repeat (go_big_quiet_step ((fail)))
  refine wpQuiet_nil ?_
  intro w9 hw9
  obtain ⟨m8, rfl⟩ := hw9
  all_goals
    go_wp2
    go_end0
    have H3 := HP2.out.setA y (i : Int)
    have H3' : HpP S (w2.setCell ⟨ba, y, none⟩ (.int .i64 (i : Int))) h { p with l := (p.l.set i (y : Int)).set k (x : Int), at_ := p.at_.set y (i : Int) } (.slice (some ⟨b, 0, none⟩) p.l.length c) (.slice (some ⟨ba, 0, none⟩) ({ p with l := (p.l.set i (y : Int)).set k (x : Int), at_ := p.at_.set y (i : Int) } : Hp).at_.length ca) vk := by
      rw [show ({ p with l := (p.l.set i (y : Int)).set k (x : Int), at_ := p.at_.set y (i : Int) } : Hp).at_.length = p.at_.length by simp]; exact H3.1
    have H4 := H3'.setA x (k : Int)
    rw [show ({ p with l := (p.l.set i (y : Int)).set k (x : Int), at_ := p.at_.set y (i : Int) } : Hp).at_.length = p.at_.length by simp] at H4
    refine ⟨rfl, ⟨.slice (some ⟨b, 0, none⟩) p.l.length c, .slice (some ⟨ba, 0, none⟩) p.at_.length ca, vk, ?_⟩, ((HC2.out.drewN _).set H3.2 _ _).set H3.2 _ _⟩
    have e : swapL p i k = { p with l := (p.l.set i (y : Int)).set k (x : Int), at_ := (p.at_.set y (i : Int)).set x (k : Int) } := by
      unfold swapL; rw [HX.out, HY.out]; rfl
    rw [e]
    exact H4.1.keep (w' := ((w2.drewN (1 + m8)).setCell ⟨ba, y, none⟩ (.int .i64 (i : Int))).setCell ⟨ba, x, none⟩ (.int .i64 (k : Int))) (fun k _ _ => rfl)
set_option maxHeartbeats 8000000 in
set_option maxRecDepth 100000 in
theorem Swap_same (S : Nat → Prop) (h : Nat) (p : Hp) (i : Nat) (w : World) (H : HpAt S w h p) (hv : HpInv p) (hi : i < p.l.length) (hn : p.at_.length ≤ 1000) (hln : p.l.length ≤ 1000) :
    Calls Tryz.prog 202 #[.pointer (some ⟨h, 0, none⟩), .int .i64 (i : Int), .int .i64 (i : Int)] w fun e w' => e = .returned (.tuple #[]) ∧ HpAt S w' h (swapL p i i) ∧ Chg S w w' := by
  obtain ⟨vl, va, vk, HP⟩ := H
  obtain ⟨x, hx, hxn, hxa⟩ := hv.l1 i hi
  obtain ⟨b, c, rfl, ci, fi⟩ := HP.rl.some_ i hi
  obtain ⟨ba, ca, rfl, cx, fx⟩ := HP.ra.some_ x hxn
  have hb : b ≠ ba := fun e => HP.la b rfl (by rw [e]; rfl)
  have hhb : h ≠ b := fun e => own_ne HP.rl.own HP.blk (by decide) (by rw [e]; rfl)
  have hha : h ≠ ba := fun e => own_ne HP.ra.own HP.blk (by decide) (by rw [e]; rfl)
  have c0 : w.cell? ⟨h, 0, none⟩ = some (.slice (some ⟨b, 0, none⟩) p.l.length c) := (blk_cell HP.blk 0).trans rfl
  have c1 : w.cell? ⟨h, 1, none⟩ = some (.slice (some ⟨ba, 0, none⟩) p.at_.length ca) := (blk_cell HP.blk 1).trans rfl
  rw [hx] at ci
  have HPA := Aside0.mk HP
  have HX := Aside0.mk hx
  obtain ⟨L, hL⟩ : ∃ L, p.l.length = L := ⟨_, rfl⟩
  obtain ⟨N, hN⟩ : ∃ N, p.at_.length = N := ⟨_, rfl⟩
  rw [hL] at c0 hi hln
  rw [hN] at c1 hxn hn
  have HL := Aside0.mk hL
  have HN := Aside0.mk hN
  clear hL hN hx HP hv hxa
  have q1 : (0 ≤ (i : Int)) = True := eq_true (by omega)
  have q3 : ((i : Int) < (L : Int)) = True := eq_true (by omega)
  have q5 : (0 ≤ (x : Int)) = True := eq_true (by omega)
  have q7 : ((x : Int) < (N : Int)) = True := eq_true (by omega)
  have r5 : (b = ba) = False := eq_false hb
  have r6 : (ba = b) = False := eq_false (Ne.symm hb)
  have r7 : (h = b) = False := eq_false hhb
  have r8 : (h = ba) = False := eq_false hha
  have r9 : (b = h) = False := eq_false (Ne.symm hhb)
  have r0 : (ba = h) = False := eq_false (Ne.symm hha)
  clear hb hhb hha
  go_enter Tryz.func202, Tryz.ntmps202
  go_wp2
  refine wp_region_any (by kernel_rfl) ?_
  refine wpAny_take (i := 9) (v := .int .i64 (i : Int)) rfl (by kernel_rfl) (by kernel_rfl) (by kernel_rfl) (fun _ _ _ h => h) (Or.inl ⟨rfl, fun w => rfl⟩) ?_
  refine Qt.wpAny_quiet_tail 24 (List.range 9 ++ (List.range 14).map (· + 10)) (fun l => l.take 9 ++ (l.drop 10).take 14) _ _ rfl rfl (by kernel_rfl) ?_
  simp only [List.take_succ_cons, List.take_zero, List.drop_succ_cons, List.drop_zero, List.cons_append, List.nil_append, Act.put, List.getElem_toArray, List.getElem_cons_succ, List.getElem_cons_zero, List.setIfInBounds_toArray, List.set_cons_succ, List.set_cons_zero]
  repeat (go_big_quiet_step ((fail)))
  refine wpQuiet_nil ?_
  intro w9 hw9
  obtain ⟨m9, rfl⟩ := hw9
  go_wp2
  obtain ⟨w2, hw2⟩ : ∃ w2, w2 = ((w.drewN (1 + m9)).setCell ⟨b, i, none⟩ (.int .i64 (x : Int))).setCell ⟨b, i, none⟩ (.int .i64 (x : Int)) := ⟨_, rfl⟩
  have H1 := HPA.out.setL i (x : Int)
  have H1' : HpP S (w.setCell ⟨b, i, none⟩ (.int .i64 (x : Int))) h { p with l := p.l.set i (x : Int) } (.slice (some ⟨b, 0, none⟩) ({ p with l := p.l.set i (x : Int) } : Hp).l.length c) (.slice (some ⟨ba, 0, none⟩) p.at_.length ca) vk := by
    rw [show ({ p with l := p.l.set i (x : Int) } : Hp).l.length = p.l.length by simp]; exact H1.1
  have H2 := H1'.setL i (x : Int)
  rw [show ({ p with l := p.l.set i (x : Int) } : Hp).l.length = p.l.length by simp] at H2
  have HP2 := Aside0.mk (show HpP S w2 h { p with l := (p.l.set i (x : Int)).set i (x : Int) } (.slice (some ⟨b, 0, none⟩) p.l.length c) (.slice (some ⟨ba, 0, none⟩) p.at_.length ca) vk by rw [hw2]; exact H2.1.keep (fun k _ _ => rfl))
  have HC2 := Aside0.mk (show Chg S w w2 by rw [hw2]; exact ((((Chg.refl S w).drewN _).set H1.2 _ _).set H1.2 _ _))
  have z0 : w2.cell? ⟨h, 0, none⟩ = some (.slice (some ⟨b, 0, none⟩) L c) := by have := (blk_cell HP2.out.blk 0).trans rfl; rwa [HL.out] at this
  have z1 : w2.cell? ⟨h, 1, none⟩ = some (.slice (some ⟨ba, 0, none⟩) N ca) := by have := (blk_cell HP2.out.blk 1).trans rfl; rwa [HN.out] at this
  have hr2 : RowAt S w2 3 1 (.slice (some ⟨b, 0, none⟩) L c) L (ints ((p.l.set i (x : Int)).set i (x : Int))) := by
    have := HP2.out.rl
    rw [show ({ p with l := (p.l.set i (x : Int)).set i (x : Int) } : Hp).l.length = p.l.length by simp, HL.out] at this
    exact this
  have z2 : w2.cell? ⟨b, i, none⟩ = some (.int .i64 (x : Int)) := by
    have := (hr2.int_at (i : Int) (by omega) (by omega)).1
    rw [Int.toNat_natCast] at this
    rw [this]
    have hl : i < p.l.length := HL.out ▸ hi
    simp [rd, List.getElem?_set, hl]
  have z4 : w2.cell? ⟨ba, x, none⟩ = some (.int .i64 (p.at_.getD x 0)) := (HP2.out.ra.int_at (x : Int) (by omega) (by rw [HN.out]; omega)).1
  have z6 : w2.frozen? ⟨ba, x, none⟩ = false := (HP2.out.ra.int_at (x : Int) (by omega) (by rw [HN.out]; omega)).2
  rw [← hw2]
  clear hr2 hw2 H1 H1' H2 ci fi cx fx c0 c1
  go_wp2
  refine wp_region_any (by kernel_rfl) ?_
  refine wpAny_take (i := 22) (v := .int .i64 (i : Int)) rfl (by kernel_rfl) (by kernel_rfl) (by kernel_rfl) (fun _ _ _ h => h) (Or.inl ⟨rfl, fun w => rfl⟩) ?_
  refine wpAny_take (i := 23) (v := .int .i64 (i : Int)) rfl (by kernel_rfl) (by kernel_rfl) (by kernel_rfl) (fun _ _ _ h => h) (Or.inl ⟨rfl, fun w => rfl⟩) ?_
  refine Qt.wpAny_quiet_tail 24 (List.range 22) (fun l => l.take 22) _ _ rfl rfl (by kernel_rfl) ?_
  simp only [List.take_succ_cons, List.take_zero, List.drop_succ_cons, List.drop_zero, List.cons_append, List.nil_append, Act.put, List.getElem_toArray, List.getElem_cons_succ, List.getElem_cons_zero, List.setIfInBounds_toArray, List.set_cons_succ, List.set_cons_zero]
  repeat (go_big_quiet_step ((fail)))
  refine wpQuiet_nil ?_
  intro w9 hw9
  obtain ⟨m8, rfl⟩ := hw9
  all_goals
    go_wp2
    go_end0
    have H3 := HP2.out.setA x (i : Int)
    have H3' : HpP S (w2.setCell ⟨ba, x, none⟩ (.int .i64 (i : Int))) h { p with l := (p.l.set i (x : Int)).set i (x : Int), at_ := p.at_.set x (i : Int) } (.slice (some ⟨b, 0, none⟩) p.l.length c) (.slice (some ⟨ba, 0, none⟩) ({ p with l := (p.l.set i (x : Int)).set i (x : Int), at_ := p.at_.set x (i : Int) } : Hp).at_.length ca) vk := by
      rw [show ({ p with l := (p.l.set i (x : Int)).set i (x : Int), at_ := p.at_.set x (i : Int) } : Hp).at_.length = p.at_.length by simp]; exact H3.1
    have H4 := H3'.setA x (i : Int)
    rw [show ({ p with l := (p.l.set i (x : Int)).set i (x : Int), at_ := p.at_.set x (i : Int) } : Hp).at_.length = p.at_.length by simp] at H4
    refine ⟨rfl, ⟨.slice (some ⟨b, 0, none⟩) p.l.length c, .slice (some ⟨ba, 0, none⟩) p.at_.length ca, vk, ?_⟩, ((HC2.out.drewN _).set H3.2 _ _).set H3.2 _ _⟩
    have e : swapL p i i = { p with l := (p.l.set i (x : Int)).set i (x : Int), at_ := (p.at_.set x (i : Int)).set x (i : Int) } := by
      unfold swapL; rw [HX.out]; rfl
    rw [e]
    exact H4.1.keep (w' := ((w2.drewN (1 + m8)).setCell ⟨ba, x, none⟩ (.int .i64 (i : Int))).setCell ⟨ba, x, none⟩ (.int .i64 (i : Int))) (fun k _ _ => rfl)
end Go.Proofs.YtbpoapfkeinjnaaGreatDoor.Ld
namespace Go.Proofs.YtbpoapfkeinjnaaGreatDoor.Ld
open Go.RowKit Go.Proofs.YtbpoapfkeinjnaaGreatDoorW.PrintWords Go.Proofs.YtbpoapfkeinjnaaGreatDoorW.PrintLast Go.Proofs.YtbpoapfkeinjnaaGreatDoorW.PrintMore
set_option linter.unusedVariables false
set_option linter.unusedSimpArgs false
attribute [local go_sem] max2_int min2_int max_two min_two
set_option maxHeartbeats 8000000 in
set_option maxRecDepth 100000 in
theorem HLen_calls (S : Nat → Prop) (h : Nat) (p : Hp) (w : World) (H : HpAt S w h p) : Calls Tryz.prog 198 #[.pointer (some ⟨h, 0, none⟩)] w fun e w' => e = .returned (.int .i64 (p.l.length : Int)) ∧ Drawn0 w w' := by
  obtain ⟨vl, va, vk, HP⟩ := H
  obtain ⟨A, c, rfl, _, _⟩ := HP.rl.ri
  have c0 : w.cell? ⟨h, 0, none⟩ = some (.slice A p.l.length c) := (blk_cell HP.blk 0).trans rfl
  clear HP
  go_enter Tryz.func198, Tryz.ntmps198
  go_wp2
  go_ret
  exact ⟨rfl, by repeat (first | exact Drawn0.refl _ | apply Drawn0.step)⟩
set_option maxHeartbeats 8000000 in
set_option maxRecDepth 100000 in
theorem HLess_calls (S : Nat → Prop) (h : Nat) (p : Hp) (i k : Nat) (w : World) (H : HpAt S w h p) (hv : HpInv p) (hi : i < p.l.length) (hk : k < p.l.length) (hn : p.at_.length ≤ 1000) (hln : p.l.length ≤ 1000) :
    Calls Tryz.prog 199 #[.pointer (some ⟨h, 0, none⟩), .int .i64 (i : Int), .int .i64 (k : Int)] w fun e w' => ∃ b, e = .returned (.bool b) ∧ Drawn0 w w' := by
  obtain ⟨vl, va, vk, HP⟩ := H
  obtain ⟨x, hx, hxn, hxa⟩ := hv.l1 i hi
  obtain ⟨y, hy, hyn, hya⟩ := hv.l1 k hk
  have hkl := hv.len
  obtain ⟨b, c, rfl, ci, fi⟩ := HP.rl.some_ i hi
  obtain ⟨_, _, e, ck, fk⟩ := HP.rl.some_ k hk
  injection e with e1 e2 e3; injection e1 with e1; injection e1 with e1; subst e1 e3
  obtain ⟨bk, ca, rfl, cx, fx⟩ := HP.rk.some_ x (by omega)
  obtain ⟨_, _, e, cy, fy⟩ := HP.rk.some_ y (by omega)
  injection e with e1 e2 e3; injection e1 with e1; injection e1 with e1; subst e1 e3
  have c0 : w.cell? ⟨h, 0, none⟩ = some (.slice (some ⟨b, 0, none⟩) p.l.length c) := (blk_cell HP.blk 0).trans rfl
  have c1 : w.cell? ⟨h, 2, none⟩ = some (.slice (some ⟨bk, 0, none⟩) p.keys.length ca) := (blk_cell HP.blk 2).trans rfl
  rw [hx] at ci
  rw [hy] at ck
  obtain ⟨X, hX⟩ : ∃ X, p.keys.getD x 0 = X := ⟨_, rfl⟩
  obtain ⟨Y, hY⟩ : ∃ Y, p.keys.getD y 0 = Y := ⟨_, rfl⟩
  rw [hX] at cx
  rw [hY] at cy
  obtain ⟨L, hL⟩ : ∃ L, p.l.length = L := ⟨_, rfl⟩
  obtain ⟨N, hN⟩ : ∃ N, p.keys.length = N := ⟨_, rfl⟩
  rw [hL] at c0 hi hk hln
  rw [← hkl] at hxn hyn hn
  rw [hN] at c1 hxn hyn hn
  clear hL hN hx hy HP hv hxa hya hX hY hkl fi fk fx fy
  have q1 : (0 ≤ (i : Int)) = True := eq_true (by omega)
  have q2 : (0 ≤ (k : Int)) = True := eq_true (by omega)
  have q3 : ((i : Int) < (L : Int)) = True := eq_true (by omega)
  have q4 : ((k : Int) < (L : Int)) = True := eq_true (by omega)
  have q5 : (0 ≤ (x : Int)) = True := eq_true (by omega)
  have q6 : (0 ≤ (y : Int)) = True := eq_true (by omega)
  have q7 : ((x : Int) < (N : Int)) = True := eq_true (by omega)
  have q8 : ((y : Int) < (N : Int)) = True := eq_true (by omega)
  cases b1 : decide (X < Y)
  · cases b2 : (X == Y)
    · go_enter Tryz.func199, Tryz.ntmps199
      go_wp2
      go_quiet (fail)
      go_wp2
      go_quiet (fail)
      go_wp2
      go_ret
      exact ⟨_, rfl, by repeat (first | exact Drawn0.refl _ | apply Drawn0.step)⟩
    · go_enter Tryz.func199, Tryz.ntmps199
      go_wp2
      go_quiet (fail)
      go_wp2
      go_quiet (fail)
      go_wp2
      go_ret
      exact ⟨_, rfl, by repeat (first | exact Drawn0.refl _ | apply Drawn0.step)⟩
  · go_enter Tryz.func199, Tryz.ntmps199
    go_wp2
    go_quiet (fail)
    go_wp2
    go_quiet (fail)
    go_wp2
    go_ret
    exact ⟨_, rfl, by repeat (first | exact Drawn0.refl _ | apply Drawn0.step)⟩
def pushH (p : Hp) (j : Nat) : Hp := { p with l := p.l ++ [(j : Int)], at_ := p.at_.set j (p.l.length : Int) }
theorem RowAt.same2 {S : Nat → Prop} {w w' : World} {e : TypeId} {sz n b : Nat} {v v' : Value} {xs : List Value} {cs : Array Value} {ty : TypeId} (h : RowAt S w e sz v n xs) (hc : Chg (fun k => k = b ∨ v'.ownBlock = some k) w w') (hb : w.heap[b]? = some (.cells cs ty (0, 0))) (ht : e ≠ ty) (hne : ∀ k, v.ownBlock = some k → v'.ownBlock ≠ some k) : RowAt (up S w w') w' e sz v n xs :=
  (h.other hc hb ht hne).mono (fun k _ hk => .inl hk)
theorem HpP.pushL {S : Nat → Prop} {w w' : World} {h : Nat} {p : Hp} {vl va vk v6 : Value} {x : Int} (H : HpP S w h p vl va vk) (P : Pushed S w w w' 3 1 vl v6 (p.l.length + 1) (ints (p.l ++ [x])) h #[v6, va, vk] 179) :
    HpP (up S w w') w' h { p with l := p.l ++ [x] } v6 va vk ∧ Chg S w w' := by
  have hn : ∀ v : Value, (∀ k, vl.ownBlock = some k → v.ownBlock ≠ some k) → (∀ k, v.ownBlock = some k → k < w.heap.size) → ∀ k, v6.ownBlock = some k → v.ownBlock ≠ some k := fun v h1 h2 k hk e => by
    rcases P.hat with hv | ⟨b, hv, hb⟩
    · exact h1 k (hv ▸ hk) e
    · rw [hv] at hk; injection hk with hk; have := h2 k e; omega
  exact ⟨⟨P.blk, by simpa using P.row, H.ra.same2 P.chg H.blk (by decide) (fun k hk e => H.la k e hk), H.rk.same2 P.chg H.blk (by decide) (fun k hk e => H.lk k e hk), hn va H.la (own_lt H.ra.own), hn vk H.lk (own_lt H.rk.own), H.ak, .inl H.fg⟩, P.chg.push H.fg H.rl⟩
set_option maxHeartbeats 8000000 in
set_option maxRecDepth 100000 in
theorem HPush_calls (S : Nat → Prop) (h : Nat) (p : Hp) (j : Nat) (w : World) (H : HpAt S w h p) (hj : j < p.at_.length) (hn : p.at_.length ≤ 1000) (hln : p.l.length ≤ 900) :
    Calls Tryz.prog 201 #[.pointer (some ⟨h, 0, none⟩), .iface 3 (.int .i64 (j : Int))] w fun e w' => e = .returned (.tuple #[]) ∧ HpAt (up S w w') w' h (pushH p j) ∧ Chg S w w' := by
  obtain ⟨vl, va, vk, HP⟩ := H
  obtain ⟨A, c, rfl, _, _⟩ := HP.rl.ri
  obtain ⟨ba, ca, rfl, cx, fx⟩ := HP.ra.some_ j hj
  have c0 : w.cell? ⟨h, 0, none⟩ = some (.slice A p.l.length c) := (blk_cell HP.blk 0).trans rfl
  have c1 : w.cell? ⟨h, 1, none⟩ = some (.slice (some ⟨ba, 0, none⟩) p.at_.length ca) := (blk_cell HP.blk 1).trans rfl
  have HPA := Aside0.mk HP
  obtain ⟨L, hL⟩ : ∃ L, p.l.length = L := ⟨_, rfl⟩
  obtain ⟨N, hN⟩ : ∃ N, p.at_.length = N := ⟨_, rfl⟩
  rw [hL] at c0 hln
  rw [hN] at c1 hj hn
  have HL := Aside0.mk hL
  have HN := Aside0.mk hN
  clear hL hN HP
  have q5 : (0 ≤ (j : Int)) = True := eq_true (by omega)
  have q7 : ((j : Int) < (N : Int)) = True := eq_true (by omega)
  have ht : ∀ w : World, (Instr.typeAssert (.iface 3 (.int .i64 (j : Int))) 20 3 false).run Tryz.prog w = .ok (.int .i64 (j : Int)) w := fun _ => by kernel_rfl
  go_enter Tryz.func201, Tryz.ntmps201
  go_wp2
  refine Qt.wp_region_quiet_tail 10 (by kernel_rfl) (by kernel_rfl) ?_
  simp only [List.take_succ_cons, List.take_zero, List.drop_succ_cons, List.drop_zero]
  repeat (go_big_quiet_step ((fail)))
  refine wpQuiet_nil ?_
  intro w9 hw9
  obtain ⟨m9, rfl⟩ := hw9
  go_upto_region 2 with (fail)
  have H1 := (HPA.out.keep (w' := w.drewN m9) (fun k _ _ => rfl)).setA j (L : Int)
  obtain ⟨w2, hw2⟩ : ∃ w2, w2 = (w.drewN m9).setCell ⟨ba, j, none⟩ (.int .i64 (L : Int)) := ⟨_, rfl⟩
  have HC2 := Aside0.mk (show Chg S w w2 by rw [hw2]; exact ((Chg.refl S w).drewN _).set H1.2 _ _)
  have HP2 := Aside0.mk (show HpP S w2 h { p with at_ := p.at_.set j (L : Int) } (.slice A p.l.length c) (.slice (some ⟨ba, 0, none⟩) p.at_.length ca) vk by rw [hw2]; exact H1.1)
  have z0 : w2.cell? ⟨h, 0, none⟩ = some (.slice A L c) := by have := (blk_cell HP2.out.blk 0).trans rfl; rwa [HL.out] at this
  have z3 := Aside0.mk (show RowAt S w2 3 1 (.slice A L c) p.l.length (ints p.l) by have := HP2.out.rl; rwa [HL.out] at this ⊢)
  have z4 : Aside0 (w2.heap[h]? = some (.cells #[.slice A L c, .slice (some ⟨ba, 0, none⟩) p.at_.length ca, vk] 179 (0, 0))) := ⟨by have := HP2.out.blk; rwa [HL.out] at this⟩
  rw [← hw2]
  clear hw2 H1 c0 c1 cx fx
  go_wp2_with (at_builtin; go_loud (refine wp_push (S := S) (w := w2) (wb := w2) (Value.int .i64) rfl (.tmp 22) (.tmp 24) 22 3 (.int .i64 0) 8 rfl Tryz.underlying22 info3 rfl (by decide) (.slice A L c) p.l (j : Int) h 0 #[.slice A L c, .slice (some ⟨ba, 0, none⟩) p.at_.length ca, vk] 179 rfl rfl rfl z3.out (Below.refl _ _) z4.out (by decide) (by rw [HL.out]; omega) ?_); (intro A6 c6 w6 hpre; have q1 := (blk_cell hpre.blk 0).trans rfl; have q2 := blk_frozen hpre.blk 0; have HF := Aside0.mk hpre.post; clear hpre))
  go_end0
  have hp := HP2.out
  rw [HL.out] at hp
  have hfin := hp.pushL HF.out
  have s1 := HC2.out.size
  refine ⟨rfl, ?_, HC2.out.trans hfin.2⟩
  have e : pushH p j = { p with l := p.l ++ [(j : Int)], at_ := p.at_.set j (L : Int) } := by unfold pushH; rw [HL.out]
  rw [e]
  exact ⟨_, _, _, hfin.1.mono (up_left s1)⟩
def popH (p : Hp) (j : Nat) : Hp := { p with l := p.l.take (p.l.length - 1), at_ := p.at_.set j (-1) }
theorem HpP.cutL {S : Nat → Prop} {w : World} {h : Nat} {p : Hp} {b c L n : Nat} {va vk : Value} (H : HpP S w h p (.slice (some ⟨b, 0, none⟩) n c) va vk) (hn : p.l.length = n) (hL : L ≤ n) :
    HpP S (w.setCell ⟨h, 0, none⟩ (.slice (some ⟨b, 0, none⟩) L c)) h { p with l := p.l.take L } (.slice (some ⟨b, 0, none⟩) L c) va vk := by
  subst hn
  have h1 := own_take (m := L) H.rl.own hL (by simp)
  rw [Nat.mul_one, show (ints p.l).take L = ints (p.l.take L) by unfold ints encs; rw [List.map_take]] at h1
  have hl : (p.l.take L).length = L := by rw [List.length_take]; omega
  refine ⟨blk_put H.blk 0 _ rfl, ?_, ⟨own_setCell H.ra.own (own_ne H.ra.own H.blk (by decide)) _, H.ra.fp⟩, ⟨own_setCell H.rk.own (own_ne H.rk.own H.blk (by decide)) _, H.rk.fp⟩, fun k hk => H.la k hk, fun k hk => H.lk k hk, H.ak, H.fg⟩
  rw [show ({ p with l := p.l.take L } : Hp).l.length = L from hl]
  exact ⟨own_setCell h1 (own_ne h1 H.blk (by decide)) _, fun k hk => H.rl.fp k hk⟩
theorem ints_take (l : List Int) (n : Nat) : ints (l.take n) = (ints l).take n := by unfold ints encs; rw [List.map_take]
set_option maxHeartbeats 8000000 in
set_option maxRecDepth 100000 in
theorem HPopR_calls (S : Nat → Prop) (h : Nat) (p : Hp) (L j : Nat) (w : World) (H : HpAt S w h p) (hL : p.l.length = L + 1) (hlj : p.l.getD L 0 = (j : Int)) (hj : j < p.at_.length) (hn : p.at_.length ≤ 1000) (hln : L ≤ 1000) :
    Calls Tryz.prog 200 #[.pointer (some ⟨h, 0, none⟩)] w fun e w' => e = .returned (.iface 3 (.int .i64 (j : Int))) ∧ HpAt S w' h (popH p j) ∧ Chg S w w' := by
  obtain ⟨vl, va, vk, HP⟩ := H
  obtain ⟨b, c, rfl, ci, fi⟩ := HP.rl.some_ L (by omega)
  obtain ⟨ba, ca, rfl, cx, fx⟩ := HP.ra.some_ j hj
  have c0 : w.cell? ⟨h, 0, none⟩ = some (.slice (some ⟨b, 0, none⟩) p.l.length c) := (blk_cell HP.blk 0).trans rfl
  have f0 := blk_frozen HP.blk 0
  have c1 : w.cell? ⟨h, 1, none⟩ = some (.slice (some ⟨ba, 0, none⟩) p.at_.length ca) := (blk_cell HP.blk 1).trans rfl
  have hcc : p.l.length ≤ c := by
    rcases HP.rl.own.2 with ⟨h2, _⟩ | ⟨g', cap, cur, hv, _, hh, h3, h4, _⟩
    · cases h2
    · injection hv with e1 e2 e3; subst e3; exact h3
  have hhb : ba ≠ h := fun e => own_ne HP.ra.own HP.blk (by decide) (by rw [← e]; rfl)
  have HPA := Aside0.mk HP
  obtain ⟨N, hN⟩ : ∃ N, p.at_.length = N := ⟨_, rfl⟩
  rw [hlj] at ci
  rw [hL] at c0 hcc
  rw [hN] at c1 hj hn
  have HL := Aside0.mk hL
  have HN := Aside0.mk hN
  have HLJ := Aside0.mk hlj
  clear hL hN HP hlj
  have q1 : (0 ≤ (L : Int)) = True := eq_true (by omega)
  have q2 : ((L : Int) < (L : Int) + 1) = True := eq_true (by omega)
  have q3 : (L : Int) ≤ (c : Int) := by omega
  have q4 : L ≤ c := by omega
  have q5 : (0 ≤ (j : Int)) = True := eq_true (by omega)
  have q7 : ((j : Int) < (N : Int)) = True := eq_true (by omega)
  have r1 : (ba = h) = False := eq_false hhb
  have r2 : (h = ba) = False := eq_false (Ne.symm hhb)
  clear hhb
  go_enter Tryz.func200, Tryz.ntmps200
  go_wp2
  go_ret
  have h1 := HPA.out.cutL (L := L) rfl (by rw [HL.out]; omega)
  have h2 := h1.setA j (-1)
  have e : popH p j = { p with l := p.l.take L, at_ := p.at_.set j (-1) } := by unfold popH; rw [HL.out]; rfl
  refine ⟨rfl, ?_, ((Chg.refl S w).set HPA.out.fg _ _).set h2.2 _ _⟩
  rw [e]
  exact ⟨_, _, _, h2.1⟩
end Go.Proofs.YtbpoapfkeinjnaaGreatDoor.Ld
namespace Go.Proofs.YtbpoapfkeinjnaaGreatDoor.Ld
open Go.RowKit Go.Proofs.YtbpoapfkeinjnaaGreatDoorW.PrintWords Go.Proofs.YtbpoapfkeinjnaaGreatDoorW.PrintLast Go.Proofs.YtbpoapfkeinjnaaGreatDoorW.PrintMore
set_option linter.unusedVariables false
set_option linter.unusedSimpArgs false
attribute [local go_sem] max2_int min2_int max_two min_two
structure Rel (n : Nat) (p q : Hp) : Prop where
  keys : q.keys = p.keys
  la : q.at_.length = p.at_.length
  ll : q.l.length = p.l.length
  inv : HpInv q
  on : ∀ j, j < p.at_.length → (0 ≤ q.at_.getD j 0 ↔ 0 ≤ p.at_.getD j 0)
  high : ∀ m, n ≤ m → q.l.getD m 0 = p.l.getD m 0
theorem Rel.refl {p : Hp} (h : HpInv p) (n : Nat) : Rel n p p := ⟨rfl, rfl, rfl, h, fun _ _ => Iff.rfl, fun _ _ => rfl⟩
theorem Rel.trans {n : Nat} {p q r : Hp} (h : Rel n p q) (k : Rel n q r) : Rel n p r :=
  ⟨k.keys.trans h.keys, k.la.trans h.la, k.ll.trans h.ll, k.inv, fun j hj => (k.on j (by rw [h.la]; exact hj)).trans (h.on j hj), fun m hm => (k.high m hm).trans (h.high m hm)⟩
theorem getD_set' {l : List Int} {i j : Nat} {x : Int} (h : i < l.length) : (l.set i x).getD j 0 = if j = i then x else l.getD j 0 := by
  rw [getD_set]
  by_cases e : j = i
  · rw [if_pos ⟨e.symm, h⟩, if_pos e]
  · rw [if_neg (fun f => e f.1.symm), if_neg e]
theorem swap_rel {p : Hp} (h : HpInv p) {n i k : Nat} (hi : i < p.l.length) (hk : k < p.l.length) (hin : i < n) (hkn : k < n) : Rel n p (swapL p i k) := by
  obtain ⟨x, hx, hxn, hxa⟩ := h.l1 i hi
  obtain ⟨y, hy, hyn, hya⟩ := h.l1 k hk
  have ex : (p.l.getD i 0).toNat = x := by rw [hx]; rfl
  have ey : (p.l.getD k 0).toNat = y := by rw [hy]; rfl
  have hL : ∀ m, (swapL p i k).l.getD m 0 = if m = k then (x : Int) else if m = i then (y : Int) else p.l.getD m 0 := fun m => by
    show ((p.l.set i (p.l.getD k 0)).set k (p.l.getD i 0)).getD m 0 = _
    rw [getD_set' (by simpa using hk), getD_set' hi, hx, hy]
  have hA : ∀ j, (swapL p i k).at_.getD j 0 = if j = x then (k : Int) else if j = y then (i : Int) else p.at_.getD j 0 := fun j => by
    show ((p.at_.set (p.l.getD k 0).toNat (i : Int)).set (p.l.getD i 0).toNat (k : Int)).getD j 0 = _
    rw [ex, ey, getD_set' (by simpa using hxn), getD_set' hyn]
  have hll : (swapL p i k).l.length = p.l.length := by simp [swapL]
  have hal : (swapL p i k).at_.length = p.at_.length := by simp [swapL]
  have hon : ∀ j, j < p.at_.length → (0 ≤ (swapL p i k).at_.getD j 0 ↔ 0 ≤ p.at_.getD j 0) := fun j hj => by
    rw [hA]
    by_cases h1 : j = x
    · subst h1; rw [if_pos rfl]; constructor <;> intro <;> omega
    · rw [if_neg h1]
      by_cases h2 : j = y
      · subst h2; rw [if_pos rfl]; constructor <;> intro <;> omega
      · rw [if_neg h2]
  refine ⟨rfl, hal, hll, ⟨by rw [hal]; exact h.len, fun m hm => ?_, fun j hj => ?_, ?_⟩, hon, fun m hm => ?_⟩
  · rw [hll] at hm
    rw [hL]
    by_cases h1 : m = k
    · rw [if_pos h1]; exact ⟨x, rfl, by omega, by rw [hA, if_pos rfl, h1]⟩
    · rw [if_neg h1]
      by_cases h2 : m = i
      · rw [if_pos h2]
        refine ⟨y, rfl, by omega, ?_⟩
        rw [hA]
        by_cases h3 : y = x
        · exfalso; subst h3; rw [hxa] at hya; omega
        · rw [if_neg h3, if_pos rfl, h2]
      · rw [if_neg h2]
        obtain ⟨z, hz, hzn, hza⟩ := h.l1 m hm
        refine ⟨z, hz, by omega, ?_⟩
        rw [hA, if_neg (fun e => by subst e; omega), if_neg (fun e => by subst e; omega)]
        exact hza
  · rw [hal] at hj
    rw [hA]
    by_cases h1 : j = x
    · right; rw [if_pos h1]; exact ⟨k, by omega, rfl, by rw [hL, if_pos rfl, h1]⟩
    · rw [if_neg h1]
      by_cases h2 : j = y
      · right; rw [if_pos h2]
        refine ⟨i, by omega, rfl, ?_⟩
        rw [hL, if_neg (fun e => by subst e; omega), if_pos rfl, h2]
      · rw [if_neg h2]
        rcases h.l2 j hj with h3 | ⟨m, hm, hm1, hm2⟩
        · exact .inl h3
        · right
          refine ⟨m, by omega, hm1, ?_⟩
          rw [hL, if_neg (fun e => by subst e; omega), if_neg (fun e => by subst e; omega)]
          exact hm2
  · rw [hll, hal, h.cnt]
    exact sumTo_congr fun j hj => by
      unfold onN
      by_cases h1 : 0 ≤ p.at_.getD j 0
      · rw [if_pos h1, if_pos ((hon j hj).2 h1)]
      · rw [if_neg h1, if_neg (fun e => h1 ((hon j hj).1 e))]
  · rw [hL, if_neg (fun e => by omega), if_neg (by omega)]
theorem HSwap_calls (S : Nat → Prop) (h : Nat) (p : Hp) (i k : Nat) (w : World) (H : HpAt S w h p) (hv : HpInv p) (hi : i < p.l.length) (hk : k < p.l.length) (hn : p.at_.length ≤ 1000) (hln : p.l.length ≤ 1000) :
    Calls Tryz.prog 202 #[.pointer (some ⟨h, 0, none⟩), .int .i64 (i : Int), .int .i64 (k : Int)] w fun e w' => e = .returned (.tuple #[]) ∧ HpAt S w' h (swapL p i k) ∧ Chg S w w' := by
  by_cases hik : i = k
  · subst hik; exact Swap_same S h p i w H hv hi hn hln
  · exact Swap_far S h p i k w H hv hi hk hn hln hik
theorem m_Less (h : Nat) (w : World) : (method 349 183 (.pointer (some ⟨h, 0, none⟩)) "Less").run Tryz.prog w = .ok (199, .pointer (some ⟨h, 0, none⟩)) w := by kernel_rfl
theorem m_Len (h : Nat) (w : World) : (method 349 183 (.pointer (some ⟨h, 0, none⟩)) "Len").run Tryz.prog w = .ok (198, .pointer (some ⟨h, 0, none⟩)) w := by kernel_rfl
theorem m_Swap (h : Nat) (w : World) : (method 349 183 (.pointer (some ⟨h, 0, none⟩)) "Swap").run Tryz.prog w = .ok (202, .pointer (some ⟨h, 0, none⟩)) w := by kernel_rfl
theorem m_Push (h : Nat) (w : World) : (method 349 183 (.pointer (some ⟨h, 0, none⟩)) "Push").run Tryz.prog w = .ok (201, .pointer (some ⟨h, 0, none⟩)) w := by kernel_rfl
theorem m_Pop (h : Nat) (w : World) : (method 349 183 (.pointer (some ⟨h, 0, none⟩)) "Pop").run Tryz.prog w = .ok (200, .pointer (some ⟨h, 0, none⟩)) w := by kernel_rfl

set_option maxHeartbeats 8000000 in
set_option maxRecDepth 100000 in
theorem up_calls (S : Nat → Prop) (h : Nat) (p : Hp) (j n : Nat) (w : World) (H : HpAt S w h p) (hv : HpInv p) (hj : j < n) (hjl : j < p.l.length) (hn : p.at_.length ≤ 1000) (hln : p.l.length ≤ 1000) :
    Calls Tryz.prog 172 #[.iface 183 (.pointer (some ⟨h, 0, none⟩)), .int .i64 (j : Int)] w fun e w' => e = .returned (.tuple #[]) ∧ (∃ q, Rel n p q ∧ HpAt S w' h q) ∧ Chg S w w' := by
  have HH := Aside0.mk H
  have HV := Aside0.mk hv
  clear H hv
  have mL := m_Less h
  have mS := m_Swap h
  go_enter Tryz.func172, Tryz.ntmps172
  go_wp2
  go_loopg [1] (j + 1) (fun kq v wr => ∃ i : Nat, v = .int .i64 (i : Int) ∧ Aside0 (kq = i + 1 ∧ i ≤ j ∧ (∃ q, Rel n p q ∧ HpAt S wr h q) ∧ Chg S w wr))
  case atStart => exact ⟨j, rfl, ⟨rfl, Nat.le_refl _, ⟨p, Rel.refl HV.out n, HH.out⟩, Chg.refl S w⟩⟩
  case round =>
    obtain ⟨i, rfl, hA⟩ := hrel
    obtain ⟨hk, hi, ⟨q, hr, hq⟩, hc⟩ := hA.out
    have HQ := Aside0.mk hq
    have HR := Aside0.mk hr
    have HC := Aside0.mk hc
    clear hA hq hr hc
    by_cases h0 : i = 0
    · subst h0
      go_wp2
      go_end0
      exact ⟨rfl, ⟨q, HR.out, HQ.out⟩, HC.out⟩
    · obtain ⟨k, hk2⟩ : ∃ k : Nat, ((i : Int) - 1) / 2 = (k : Int) := ⟨(((i : Int) - 1) / 2).toNat, by omega⟩
      have hki : k < i := by omega
      have hb0 : ((k : Int) == (i : Int)) = false := by rw [beq_eq_false_iff_ne]; omega
      have hil : i < q.l.length := by rw [HR.out.ll]; omega
      have hkl : k < q.l.length := by omega
      have hn1 : q.at_.length ≤ 1000 := by rw [HR.out.la]; exact hn
      have hl1 : q.l.length ≤ 1000 := by rw [HR.out.ll]; exact hln
      go_wp2_with (first
        | (go_at_call 199; (with_reducible refine (HLess_calls S h q i k _ HQ.out HR.out.inv hil hkl hn1 hl1).mono ?_); rintro e w2 ⟨b, rfl, hd⟩; have HD := Aside0.mk hd; have HQ2 := Aside0.mk (HQ.out.keep (Keep.of_below hd.below)); clear hd)
        | (go_at_call 202; (with_reducible refine (HSwap_calls S h q k i _ HQ2.out HR.out.inv hkl hil hn1 hl1).mono ?_); rintro e w3 ⟨rfl, hs, hc3⟩; have HS := Aside0.mk hs; have HC3 := Aside0.mk hc3; clear hs hc3))
      all_goals first
        | (go_end0
           exact ⟨rfl, ⟨q, HR.out, HQ2.out⟩, HC.out.trans (Chg.of_drawn HD.out)⟩)
        | (go_roundg (k + 1)
           case measure => omega
           case rel => exact ⟨k, rfl, ⟨rfl, by omega, ⟨_, HR.out.trans (swap_rel HR.out.inv hkl hil (by omega) (by omega)), HS.out⟩, (HC.out.trans (Chg.of_drawn HD.out)).trans HC3.out⟩⟩)
end Go.Proofs.YtbpoapfkeinjnaaGreatDoor.Ld
