/- The engine of the yard and what it leans on, part 7. -/
import Derived.Test.YtbpoapfkeinjnaaGreatDoorK06
import Derived.Deep.RegionLaw
import Derived.Lib.SliceRun
namespace Go.Proofs.YtbpoapfkeinjnaaGreatDoor.Ld
open Go.RowKit Go.Proofs.YtbpoapfkeinjnaaGreatDoorW.PrintWords Go.Proofs.YtbpoapfkeinjnaaGreatDoorW.PrintLast Go.Proofs.YtbpoapfkeinjnaaGreatDoorW.PrintMore
set_option linter.unusedVariables false
set_option linter.unusedSimpArgs false
attribute [local go_sem] max2_int min2_int max_two min_two
structure CostsOk (l : List Mb) (ws : List Wt) (p : List Int × Bool) : Prop where
  len : p.1.length = l.length
  bd : ∀ i, i < l.length → 0 ≤ p.1.getD i 0 ∧ p.1.getD i 0 ≤ 1048576
  some : p.2 = true → ∃ i, i < l.length ∧ 0 < p.1.getD i 0
  none : p.2 = false → ∀ i, i < l.length → p.1.getD i 0 = 0
  of : ∀ i, i < l.length → 0 < p.1.getD i 0 → ∃ x, x ∈ ws ∧ placeI l x.id = (i : Int) ∧ x.cost = p.1.getD i 0
theorem getD_set {l : List Int} {i j : Nat} {x : Int} : (l.set i x).getD j 0 = if i = j ∧ i < l.length then x else l.getD j 0 := by
  rw [List.getD_eq_getElem?_getD, List.getD_eq_getElem?_getD, List.getElem?_set]
  by_cases h : i = j
  · subst h
    by_cases h2 : i < l.length <;> simp [h2]
  · simp [h]
theorem CostsOk.step {l : List Mb} {ws : List Wt} {p : List Int × Bool} (h : CostsOk l ws p) (x : Wt) (hx : x ∈ ws) : CostsOk l ws (costStep l p x) := by
  unfold costStep
  split
  · next hc =>
    obtain ⟨c1, c2, c3, c4⟩ := hc
    have hp : placeI l x.id < l.length := by rcases placeI_cases l x.id with h | h <;> omega
    have hl : (placeI l x.id).toNat < p.1.length := by rw [h.len]; omega
    refine ⟨by simpa using h.len, fun i hi => ?_, fun _ => ⟨(placeI l x.id).toNat, by omega, ?_⟩, (fun e => by cases e), fun i hi => ?_⟩
    · rw [getD_set]; split
      · omega
      · exact h.bd i hi
    · rw [getD_set, if_pos ⟨rfl, hl⟩]; omega
    · rw [getD_set]; split
      · next e => intro _; exact ⟨x, hx, by omega, rfl⟩
      · exact h.of i hi
  · exact h
theorem costs_ok (l : List Mb) (ws : List Wt) : CostsOk l ws (costsF l ws) := by
  have h0 : CostsOk l ws (List.replicate l.length 0, false) := by
    have hz : ∀ i : Nat, (List.replicate l.length (0 : Int)).getD i 0 = 0 := fun i => by
      rw [List.getD_eq_getElem?_getD, List.getElem?_replicate]; split <;> rfl
    exact ⟨by simp, fun i hi => by rw [hz]; omega, (fun e => by cases e), fun _ i _ => hz i, fun i hi h => by rw [hz] at h; omega⟩
  unfold costsF
  have : ∀ (k : List Wt) (p : List Int × Bool), (∀ x, x ∈ k → x ∈ ws) → CostsOk l ws p → CostsOk l ws (k.foldl (costStep l) p) := by
    intro k
    induction k with
    | nil => intro p _ h; exact h
    | cons x k ih => intro p hk h; exact ih _ (fun y hy => hk y (List.mem_cons_of_mem _ hy)) (h.step x (hk x List.mem_cons_self))
  exact this ws _ (fun _ h => h) h0
def TakeAll (S : Nat → Prop) (g : Nat) (t : Tur) (ws : List Wt) (w : World) (e : Ending) (w' : World) : Prop :=
  ((costsF t.l ws).2 = false ∧ e = .returned (.tuple #[.int .i64 0, .bool false]) ∧ TurAt S w' g t ∧ Chg S w w') ∨
  ((costsF t.l ws).2 = true ∧ TakePost S g t (costsF t.l ws).1 w e w')
set_option maxHeartbeats 8000000 in
set_option maxRecDepth 100000 in
theorem Take_none (S : Nat → Prop) (g : Nat) (t : Tur) (ws : List Wt) (A : Option Addr) (c0 : Nat) (w : World) (ha : TurAt S w g t) (T0 : Nat → Prop) (hw : RowAt T0 w 112 2 (.slice A ws.length c0) ws.length (flat encWt ws)) (hm : ws.length ≤ 900) (hn : t.l.length ≤ 900) (hcs : (costsF t.l ws).2 = false) :
    Calls Tryz.prog 56 #[.pointer (some ⟨g, 0, none⟩), .slice A ws.length c0] w fun e w' => e = .returned (.tuple #[.int .i64 0, .bool false]) ∧ TurAt S w' g t ∧ Chg S w w' := by
  have HA := Aside0.mk ha
  have HW := Aside0.mk hw
  have HS := Aside0.mk hcs
  clear hcs hw ha
  go_enter Tryz.func56, Tryz.ntmps56
  go_wp2
  go_step3
  go_wp2_with (go_at_call 104; (with_reducible refine (costs_calls S T0 g t ws A c0 _ HA.out HW.out hn hm).mono ?_); rintro e w1 ⟨b, rfl, hr1, hb1⟩; rw [HS.out]; have HB1 := Aside0.mk hb1; clear hr1 hb1)
  try rw [Exit.noGoto_ret]
  go_ret2
  exact ⟨rfl, HA.out.keep (Keep.of_below HB1.out), Chg.of_below HB1.out S⟩
theorem TTake_calls (S : Nat → Prop) (g : Nat) (t : Tur) (ws : List Wt) (A : Option Addr) (c0 : Nat) (w : World) (hd : ∀ k, S k → k < w.heap.size) (ha : TurAt S w g t) (hinv : TurInv t) (T0 : Nat → Prop) (hw : RowAt T0 w 112 2 (.slice A ws.length c0) ws.length (flat encWt ws)) (hm : ws.length ≤ 900) :
    Calls Tryz.prog 56 #[.pointer (some ⟨g, 0, none⟩), .slice A ws.length c0] w (TakeAll S g t ws w) := by
  have hok := costs_ok t.l ws
  cases hc : (costsF t.l ws).2 with
  | false => exact (Take_none S g t ws A c0 w ha T0 hw hm hinv.n hc).mono fun e w' h => .inl ⟨hc, h⟩
  | true => exact (Take_some S g t ws A c0 w hd ha hinv T0 hw hm (costsF t.l ws).1 (by rw [← hc]) hok.bd (hok.some hc)).mono fun e w' h => .inr ⟨hc, h⟩
end Go.Proofs.YtbpoapfkeinjnaaGreatDoor.Ld
namespace Go.Proofs.YtbpoapfkeinjnaaGreatDoor.Ld
open Go.RowKit Go.Proofs.YtbpoapfkeinjnaaGreatDoorW.PrintWords Go.Proofs.YtbpoapfkeinjnaaGreatDoorW.PrintLast Go.Proofs.YtbpoapfkeinjnaaGreatDoorW.PrintMore
set_option linter.unusedVariables false
set_option linter.unusedSimpArgs false
attribute [local go_sem] max2_int min2_int max_two min_two
theorem setCells_blk (g : Nat) (e : TypeId) (vs : List Value) : ∀ (o : Nat) (w : World) (cur : Array Value), w.heap[g]? = some (.cells cur e (0, 0)) →
    ∃ cur' : Array Value, (w.setCells g o vs).heap[g]? = some (.cells cur' e (0, 0)) ∧ cur'.size = cur.size ∧ ∀ k, cur'[k]? = if o ≤ k ∧ k < o + vs.length ∧ k < cur.size then vs[k - o]? else cur[k]? := by
  induction vs with
  | nil => intro o w cur h; exact ⟨cur, h, rfl, fun k => by rw [if_neg (fun h => by have := h.2.1; simp at this; omega)]⟩
  | cons v vs ih =>
    intro o w cur h
    obtain ⟨cur', h1, h2, h3⟩ := ih (o + 1) (w.setCell ⟨g, o, none⟩ v) (cur.setIfInBounds o v) (blk_set h o v)
    refine ⟨cur', h1, by simpa using h2, fun k => ?_⟩
    rw [h3 k, Array.size_setIfInBounds]
    by_cases hk : k = o
    · subst hk
      rw [if_neg (by omega)]
      by_cases hs : k < cur.size
      · rw [if_pos ⟨Nat.le_refl _, by simp, hs⟩, Nat.sub_self]
        simp [hs]
      · rw [if_neg (fun h => hs h.2.2)]
        simp [hs]
    · by_cases hr : o + 1 ≤ k ∧ k < o + 1 + vs.length ∧ k < cur.size
      · rw [if_pos hr, if_pos ⟨by omega, by simp; omega, hr.2.2⟩, show k - o = (k - (o + 1)) + 1 by omega]
        simp
      · rw [if_neg hr, if_neg (fun h => hr ⟨by omega, by have := h.2.1; simp at this; omega, h.2.2⟩)]
        rw [Array.getElem?_setIfInBounds_ne (by omega)]
theorem setCells_chg (g : Nat) (vs : List Value) : ∀ (o : Nat) (w : World), Chg (fun k => k = g) w (w.setCells g o vs) := by
  induction vs with
  | nil => intro o w; exact Chg.refl _ w
  | cons v vs ih => intro o w; exact ((Chg.refl (fun k => k = g) w).set (g := g) rfl o v).trans (ih (o + 1) _)
theorem RowAt.erased {α : Type} {enc : α → Value} {T : Nat → Prop} {w : World} {e : TypeId} {n c g : Nat} {xs : List α} (h : RowAt T w e 1 (.slice (some ⟨g, 0, none⟩) n c) n (encs enc xs)) (i : Nat) (hi : i < n) (z : Value) :
    RowAt T ((w.setCells g i ((encs enc xs).drop (i + 1))).setCells g (n - 1) [z]) e 1 (.slice (some ⟨g, 0, none⟩) (n - 1) c) (n - 1) (encs enc (xs.eraseIdx i)) ∧
      Chg (fun k => k = g) w ((w.setCells g i ((encs enc xs).drop (i + 1))).setCells g (n - 1) [z]) := by
  have hl : xs.length = n := by have := h.own.1; rw [encs_length] at this; omega
  obtain ⟨h1, h2⟩ := h.own
  rcases h2 with ⟨h2, _⟩ | ⟨g', cap, cur, hv, _, hh, h3, h4, h5, h6⟩
  · cases h2
  injection hv with e1 e2 e3
  injection e1 with e1
  injection e1 with e1
  subst e1 e3
  obtain ⟨cur1, a1, a2, a3⟩ := setCells_blk g e ((encs enc xs).drop (i + 1)) i w cur hh
  obtain ⟨cur2, b1, b2, b3⟩ := setCells_blk g e [z] (n - 1) _ cur1 a1
  refine ⟨⟨⟨by rw [encs_length, List.length_eraseIdx, if_pos (by omega)]; omega, .inr ⟨g, c, cur2, rfl, Nat.zero_le _, b1, by omega, h4, by omega, ?_⟩⟩, fun k hk => h.fp k hk⟩, (setCells_chg g _ _ w).trans (setCells_chg g _ _ _)⟩
  rw [Nat.mul_one] at h5 h6 ⊢
  have hcur : ∀ k, k < n → cur[k]? = (encs enc xs)[k]? := fun k hk => by
    rw [← h6, List.getElem?_take, if_pos hk, Array.getElem?_toList]
  have hln : ((encs enc xs).drop (i + 1)).length = n - (i + 1) := by rw [List.length_drop, encs_length, hl]
  apply List.ext_getElem?
  intro k
  rw [List.getElem?_take]
  by_cases hk : k < n - 1
  · rw [if_pos hk, Array.getElem?_toList, b3 k, if_neg (by omega), a3 k, hln]
    have hr : (encs enc (xs.eraseIdx i))[k]? = if k < i then (encs enc xs)[k]? else (encs enc xs)[k + 1]? := by
      unfold encs
      rw [List.getElem?_map, List.getElem?_eraseIdx, List.getElem?_map, List.getElem?_map]
      split <;> rfl
    rw [hr]
    by_cases hki : k < i
    · rw [if_neg (by omega), if_pos hki, hcur k (by omega)]
    · rw [if_pos ⟨by omega, by omega, by omega⟩, if_neg hki, List.getElem?_drop]
      congr 1
      omega
  · rw [if_neg hk, List.getElem?_eq_none]
    rw [encs_length, List.length_eraseIdx, if_pos (by omega)]; omega

set_option maxHeartbeats 8000000 in
set_option maxRecDepth 100000 in
theorem DeleteInt_calls {T : Nat → Prop} (n c i : Nat) (A : Option Addr) (xs : List Int) (w : World) (h : RowAt T w 3 1 (.slice A n c) n (encs (Value.int .i64) xs)) (hi : i < n) (hn : n ≤ 1000) :
    Calls Tryz.prog 155 #[.slice A n c, .int .i64 (i : Int), .int .i64 ((i : Int) + 1)] w fun e w' => e = .returned (.slice A (n - 1) c) ∧ RowAt T w' 3 1 (.slice A (n - 1) c) (n - 1) (encs (Value.int .i64) (xs.eraseIdx i)) ∧ Chg T w w' := by
  have hl : xs.length = n := by have := h.own.1; rw [encs_length] at this; omega
  obtain ⟨g, cap, hv, _, hglt⟩ := h.own.form (by omega)
  injection hv with e1 e2 e3
  subst e1 e3
  have hsh : n ≤ c ∧ c ≤ maxLen := by
    rcases h.own.2 with ⟨h2, _⟩ | ⟨g', cap, cur, hv, _, hh, h3, h4, _⟩
    · cases h2
    · injection hv with e1 e2 e3; subst e3; exact ⟨h3, h4⟩
  have hTg : T g := h.fp g rfl
  obtain ⟨hnc, hcm⟩ := hsh
  unfold maxLen at hcm
  obtain ⟨i0, hi0, hz⟩ := Option.map_eq_some_iff.1 info3
  simp only [Prod.mk.injEq] at hz
  obtain ⟨hz0, hz1, hz2⟩ := hz
  have hd : RowAt T w.drew 3 1 (.slice (some ⟨g, 0, none⟩) n c) n (encs (Value.int .i64) xs) := h.keep (fun k _ _ => rfl)
  obtain ⟨news, hnews⟩ : ∃ news, news = (encs (Value.int .i64) xs).drop (i + 1) := ⟨_, rfl⟩
  have hlen : news.length = n - (i + 1) := by rw [hnews, List.length_drop, encs_length, hl]
  have hcell : ∀ j, j < n → w.drew.cell? ⟨g, j, none⟩ = (encs (Value.int .i64) xs)[j]? := fun j hj => by
    have hlt : j < (encs (Value.int .i64) xs).length := by rw [encs_length, hl]; exact hj
    have := hd.own.cells (g := g) rfl j _ (List.getElem?_eq_getElem hlt)
    rw [add_plain] at this
    rw [this, List.getElem?_eq_getElem hlt]
  have hfz : ∀ j, w.drew.frozen? ⟨g, j, none⟩ = false := fun j => by
    rcases hd.own.2 with ⟨h2, _⟩ | ⟨g', cap, cur, hv, _, hh, _⟩
    · cases h2
    · injection hv with e1 e2 e3; injection e1 with e1; injection e1 with e1; subst e1; exact blk_frozen hh j
  obtain ⟨AD, hA, hsrc⟩ : ∃ AD : Addr, (if c = i + 1 then some (⟨g, 0, none⟩ : Addr) else some ⟨g, i + 1, none⟩) = some AD ∧ Hid (∀ t u, news[t]? = some u → w.drew.cell? (AD.add t) = some u) := by
    by_cases hc : c = i + 1
    · refine ⟨⟨g, 0, none⟩, by simp [hc], fun t u hu => ?_⟩
      rw [List.getElem?_eq_none (by omega)] at hu
      cases hu
    · refine ⟨⟨g, i + 1, none⟩, by simp [hc], fun t u hu => ?_⟩
      have ht : t < n - (i + 1) := by rw [← hlen]; exact (List.getElem?_eq_some_iff.1 hu).1
      have ha : (⟨g, i + 1, none⟩ : Addr).add t = ⟨g, i + 1 + t, none⟩ := by unfold Addr.add; split <;> simp_all
      rw [ha, hcell _ (by omega), ← hu, hnews, List.getElem?_drop]
  have s1 : Hid (news.length = (n - (i + 1)) * 1) := by rw [Nat.mul_one]; exact hlen
  have s2 : Hid (∀ u ∈ news, u.oneCell' = true) := by
    intro u hu
    rw [hnews] at hu
    obtain ⟨x, _, rfl⟩ := List.mem_map.1 (List.mem_of_mem_drop hu)
    rfl
  have s3 : Hid (∀ t, t < news.length → (w.drew.cell? ⟨g, 0 + i * 1 + t, none⟩).isSome = true ∧ w.drew.frozen? ⟨g, 0 + i * 1 + t, none⟩ = false) := by
    intro t ht
    rw [hlen] at ht
    rw [show 0 + i * 1 + t = i + t by omega, hcell _ (by omega)]
    exact ⟨by rw [List.getElem?_eq_getElem (by rw [encs_length]; omega)]; rfl, hfz _⟩
  have hend := hd.erased i hi (.int .i64 0)
  obtain ⟨W1, hW1⟩ : ∃ W1, W1 = w.drew.setCells g i news := ⟨_, rfl⟩
  have hW : Hid (W1 = w.drew.setCells g (0 + i * 1) news) := by rw [show 0 + i * 1 = i by omega]; exact hW1
  rw [← hnews, ← hW1] at hend
  have hcl : ∀ ty, (Builtin.clear_ #[22] ty #[.slice (some ⟨g, n - 1, none⟩) 1 (c - (n - 1))]).run Tryz.prog W1 = .ok (.tuple #[]) (W1.setCells g (n - 1) (List.replicate 1 (.int .i64 0))) := fun ty =>
    Lib.run_clear_slice (P := Tryz.prog) W1 _ _ ty _ Tryz.underlying22 (fun w => by kernel_rfl) rfl rfl g (n - 1) 1 _ (by omega)
      (fun t ht => by
        obtain rfl : t = 0 := by omega
        rw [hW1]
        exact World.isSome_setCells g news i w.drew _ (by rw [show n - 1 + 0 = n - 1 by omega, hcell _ (by omega), List.getElem?_eq_getElem (by rw [encs_length]; omega)]; rfl))
      (fun t ht => by rw [hW1, World.frozen?_setCells]; exact hfz _)
  have HEND := Aside0.mk hend
  have q1 : (0 ≤ (i : Int) + 1) = True := eq_true (by omega)
  have q2 : ((i : Int) + 1 ≤ (n : Int)) = True := eq_true (by omega)
  have hic : i ≤ c := by omega
  have hjc : i + 1 ≤ c := by omega
  have hi1 : i + (n - (i + 1)) = n - 1 := by omega
  have hi2 : n - (n - 1) = 1 := by omega
  have hi3 : n - 1 ≤ n := by omega
  have HI1 := Aside0.mk hi1
  clear hend hW1 hnews hcell hfz hd hz0 h hlen
  go_enter Tryz.func155, Tryz.ntmps155
  go_wp2_with (fail)
  go_region_law (refine step_append_room rfl (.tmp 22) (.tmp 25) 22 rfl 3 i0 1 Tryz.underlying22 hi0 hz1 g 0 i c (by simp [Act.eval, Act.put]) AD (n - (i + 1)) (c - (i + 1)) news (by simp [Act.eval, Act.put]) s1.out hsrc.out s2.out (by omega) s3.out ?_; rw [← hW.out])
  go_wp2
  go_ret
  exact ⟨rfl, HEND.out.1, (((Chg.refl T w).drew).trans (HEND.out.2.mono fun k hk => by subst hk; exact hTg))⟩

set_option maxHeartbeats 8000000 in
set_option maxRecDepth 100000 in
theorem DeleteMb_calls {T : Nat → Prop} (n c i : Nat) (A : Option Addr) (xs : List Nat) (w : World) (h : RowAt T w 164 1 (.slice A n c) n (encs ptrV xs)) (hi : i < n) (hn : n ≤ 1000) :
    Calls Tryz.prog 124 #[.slice A n c, .int .i64 (i : Int), .int .i64 ((i : Int) + 1)] w fun e w' => e = .returned (.slice A (n - 1) c) ∧ RowAt T w' 164 1 (.slice A (n - 1) c) (n - 1) (encs ptrV (xs.eraseIdx i)) ∧ Chg T w w' := by
  have hl : xs.length = n := by have := h.own.1; rw [encs_length] at this; omega
  obtain ⟨g, cap, hv, _, hglt⟩ := h.own.form (by omega)
  injection hv with e1 e2 e3
  subst e1 e3
  have hsh : n ≤ c ∧ c ≤ maxLen := by
    rcases h.own.2 with ⟨h2, _⟩ | ⟨g', cap, cur, hv, _, hh, h3, h4, _⟩
    · cases h2
    · injection hv with e1 e2 e3; subst e3; exact ⟨h3, h4⟩
  have hTg : T g := h.fp g rfl
  obtain ⟨hnc, hcm⟩ := hsh
  unfold maxLen at hcm
  obtain ⟨i0, hi0, hz⟩ := Option.map_eq_some_iff.1 info164
  simp only [Prod.mk.injEq] at hz
  obtain ⟨hz0, hz1, hz2⟩ := hz
  have hd : RowAt T w.drew 164 1 (.slice (some ⟨g, 0, none⟩) n c) n (encs ptrV xs) := h.keep (fun k _ _ => rfl)
  obtain ⟨news, hnews⟩ : ∃ news, news = (encs ptrV xs).drop (i + 1) := ⟨_, rfl⟩
  have hlen : news.length = n - (i + 1) := by rw [hnews, List.length_drop, encs_length, hl]
  have hcell : ∀ j, j < n → w.drew.cell? ⟨g, j, none⟩ = (encs ptrV xs)[j]? := fun j hj => by
    have hlt : j < (encs ptrV xs).length := by rw [encs_length, hl]; exact hj
    have := hd.own.cells (g := g) rfl j _ (List.getElem?_eq_getElem hlt)
    rw [add_plain] at this
    rw [this, List.getElem?_eq_getElem hlt]
  have hfz : ∀ j, w.drew.frozen? ⟨g, j, none⟩ = false := fun j => by
    rcases hd.own.2 with ⟨h2, _⟩ | ⟨g', cap, cur, hv, _, hh, _⟩
    · cases h2
    · injection hv with e1 e2 e3; injection e1 with e1; injection e1 with e1; subst e1; exact blk_frozen hh j
  obtain ⟨AD, hA, hsrc⟩ : ∃ AD : Addr, (if c = i + 1 then some (⟨g, 0, none⟩ : Addr) else some ⟨g, i + 1, none⟩) = some AD ∧ Hid (∀ t u, news[t]? = some u → w.drew.cell? (AD.add t) = some u) := by
    by_cases hc : c = i + 1
    · refine ⟨⟨g, 0, none⟩, by simp [hc], fun t u hu => ?_⟩
      rw [List.getElem?_eq_none (by omega)] at hu
      cases hu
    · refine ⟨⟨g, i + 1, none⟩, by simp [hc], fun t u hu => ?_⟩
      have ht : t < n - (i + 1) := by rw [← hlen]; exact (List.getElem?_eq_some_iff.1 hu).1
      have ha : (⟨g, i + 1, none⟩ : Addr).add t = ⟨g, i + 1 + t, none⟩ := by unfold Addr.add; split <;> simp_all
      rw [ha, hcell _ (by omega), ← hu, hnews, List.getElem?_drop]
  have s1 : Hid (news.length = (n - (i + 1)) * 1) := by rw [Nat.mul_one]; exact hlen
  have s2 : Hid (∀ u ∈ news, u.oneCell' = true) := by
    intro u hu
    rw [hnews] at hu
    obtain ⟨x, _, rfl⟩ := List.mem_map.1 (List.mem_of_mem_drop hu)
    rfl
  have s3 : Hid (∀ t, t < news.length → (w.drew.cell? ⟨g, 0 + i * 1 + t, none⟩).isSome = true ∧ w.drew.frozen? ⟨g, 0 + i * 1 + t, none⟩ = false) := by
    intro t ht
    rw [hlen] at ht
    rw [show 0 + i * 1 + t = i + t by omega, hcell _ (by omega)]
    exact ⟨by rw [List.getElem?_eq_getElem (by rw [encs_length]; omega)]; rfl, hfz _⟩
  have hend := hd.erased i hi (.pointer none)
  obtain ⟨W1, hW1⟩ : ∃ W1, W1 = w.drew.setCells g i news := ⟨_, rfl⟩
  have hW : Hid (W1 = w.drew.setCells g (0 + i * 1) news) := by rw [show 0 + i * 1 = i by omega]; exact hW1
  rw [← hnews, ← hW1] at hend
  have hcl : ∀ ty, (Builtin.clear_ #[144] ty #[.slice (some ⟨g, n - 1, none⟩) 1 (c - (n - 1))]).run Tryz.prog W1 = .ok (.tuple #[]) (W1.setCells g (n - 1) (List.replicate 1 (.pointer none))) := fun ty =>
    Lib.run_clear_slice (P := Tryz.prog) W1 _ _ ty _ Tryz.underlying144 (fun w => by kernel_rfl) rfl rfl g (n - 1) 1 _ (by omega)
      (fun t ht => by
        obtain rfl : t = 0 := by omega
        rw [hW1]
        exact World.isSome_setCells g news i w.drew _ (by rw [show n - 1 + 0 = n - 1 by omega, hcell _ (by omega), List.getElem?_eq_getElem (by rw [encs_length]; omega)]; rfl))
      (fun t ht => by rw [hW1, World.frozen?_setCells]; exact hfz _)
  have HEND := Aside0.mk hend
  have q1 : (0 ≤ (i : Int) + 1) = True := eq_true (by omega)
  have q2 : ((i : Int) + 1 ≤ (n : Int)) = True := eq_true (by omega)
  have hic : i ≤ c := by omega
  have hjc : i + 1 ≤ c := by omega
  have hi1 : i + (n - (i + 1)) = n - 1 := by omega
  have hi2 : n - (n - 1) = 1 := by omega
  have hi3 : n - 1 ≤ n := by omega
  have HI1 := Aside0.mk hi1
  clear hend hW1 hnews hcell hfz hd hz0 h hlen
  go_enter Tryz.func124, Tryz.ntmps124
  go_wp2_with (fail)
  go_region_law (refine step_append_room rfl (.tmp 22) (.tmp 25) 144 rfl 164 i0 1 Tryz.underlying144 hi0 hz1 g 0 i c (by simp [Act.eval, Act.put]) AD (n - (i + 1)) (c - (i + 1)) news (by simp [Act.eval, Act.put]) s1.out hsrc.out s2.out (by omega) s3.out ?_; rw [← hW.out])
  go_wp2
  go_ret
  exact ⟨rfl, HEND.out.1, (((Chg.refl T w).drew).trans (HEND.out.2.mono fun k hk => by subst hk; exact hTg))⟩
end Go.Proofs.YtbpoapfkeinjnaaGreatDoor.Ld
namespace Go.Proofs.YtbpoapfkeinjnaaGreatDoor.Ld
open Go.RowKit Go.Proofs.YtbpoapfkeinjnaaGreatDoorW.PrintWords Go.Proofs.YtbpoapfkeinjnaaGreatDoorW.PrintLast Go.Proofs.YtbpoapfkeinjnaaGreatDoorW.PrintMore
set_option linter.unusedVariables false
set_option linter.unusedSimpArgs false
attribute [local go_sem] max2_int min2_int max_two min_two
def leaveAt (t : Tur) (i : Int) : Int := if i < t.at_ then t.at_ - 1 else t.at_
def leaveAt2 (t : Tur) (i : Int) : Int := if leaveAt t i = (t.l.length : Int) - 1 then 0 else leaveAt t i
def leaveSt (t : Tur) (id : Int) : Tur := if placeI t.l id < 0 then t else { t with l := t.l.eraseIdx (placeI t.l id).toNat, at_ := leaveAt2 t (placeI t.l id) }
def leaveErr (t : Tur) (id : Int) : Int := if placeI t.l id < 0 then 6 else 0
theorem TurP.erased1 {S : Nat → Prop} {w w1 : World} {g n c : Nat} {t : Tur} {A : Option Addr} {ms : List Nat} (h : TurP S w g t (.slice A n c) ms) (hn : t.l.length = n) (i : Nat) (hi : i < n)
    (hr : RowAt (fun k => (Value.slice A n c).ownBlock = some k) w1 164 1 (.slice A (n - 1) c) (n - 1) (encs ptrV (ms.eraseIdx i))) (hc : Chg (fun k => (Value.slice A n c).ownBlock = some k) w w1) :
    TurP S (w1.setCell ⟨g, 1, none⟩ (.slice A (n - 1) c)) g { t with l := t.l.eraseIdx i } (.slice A (n - 1) c) (ms.eraseIdx i) ∧ Chg S w (w1.setCell ⟨g, 1, none⟩ (.slice A (n - 1) c)) ∧ w1.heap[g]? = some (.cells #[.int .i64 t.q, .slice A n c, .int .i64 t.at_] 146 (0, 0)) := by
  subst hn
  have hne : ¬ (Value.slice A t.l.length c).ownBlock = some g := fun e => own_ne h.row.own h.blk (by decide) e.symm
  have hb1 := hc.blk h.blk hne
  have hlen : (t.l.eraseIdx i).length = t.l.length - 1 := by rw [List.length_eraseIdx, if_pos hi]
  have hfam := (h.fam.off hc (fun k cs hk e => own_ne h.row.own hk (by decide) e.symm)).erase i hi
  have hS : ∀ k, (Value.slice A t.l.length c).ownBlock = some k → S k := h.row.fp
  refine ⟨⟨blk_put hb1 1 _ rfl, ?_, ?_, h.fg⟩, ((hc.mono hS).set h.fg 1 _), hb1⟩
  · rw [show ({ t with l := t.l.eraseIdx i } : Tur).l.length = t.l.length - 1 from hlen]
    exact ⟨own_setCell hr.own (p := ⟨g, 1, none⟩) (own_ne hr.own hb1 (by decide)) (.slice A (t.l.length - 1) c), fun k hk => hS k (hr.fp k hk)⟩
  · refine ⟨hfam.len, hfam.dup, fun j hj => ?_, hfam.fp⟩
    have hb := hfam.all j hj
    exact blk_far hb (blk_ne hb hb1 (by decide)) _
theorem Keep.of_chgS {S : Nat → Prop} {w : World} : Keep S w w := fun _ _ _ => rfl

set_option maxHeartbeats 8000000 in
set_option maxRecDepth 100000 in
theorem Leave_calls (S : Nat → Prop) (g : Nat) (t : Tur) (id : Int) (w : World) (ha : TurAt S w g t) (hinv : TurInv t) :
    Calls Tryz.prog 77 #[.pointer (some ⟨g, 0, none⟩), .int .i64 id] w fun e w' => e = .returned (.int .i64 (leaveErr t id)) ∧ TurAt S w' g (leaveSt t id) ∧ Chg S w w' := by
  have HA := Aside0.mk ha
  have hn := hinv.n
  have hat := hinv.a
  obtain ⟨r, hr⟩ : ∃ r, placeI t.l id = r := ⟨_, rfl⟩
  have HR := Aside0.mk hr
  have hrc := placeI_cases t.l id
  rw [hr] at hrc
  by_cases h1 : r < 0
  · have E1 : Aside0 (leaveErr t id = 6) := ⟨by unfold leaveErr; rw [hr, if_pos h1]⟩
    have E2 : Aside0 (leaveSt t id = t) := ⟨by unfold leaveSt; rw [hr, if_pos h1]⟩
    rw [E1.out, E2.out]
    clear hr hrc hat hinv ha
    go_enter Tryz.func77, Tryz.ntmps77
    go_wp2_with (go_at_call 123; (with_reducible refine (place_r HR.out hn _ HA.out).mono ?_); rintro e w1 ⟨rfl, hb⟩; have HB := Aside0.mk hb; clear hb)
    go_ret
    exact ⟨rfl, HA.out.keep (Keep.of_below HB.out), Chg.of_below HB.out S⟩
  · obtain ⟨i, rfl⟩ : ∃ i : Nat, r = (i : Int) := ⟨r.toNat, by omega⟩
    have hi : i < t.l.length := by omega
    have E1 : Aside0 (leaveErr t id = 0) := ⟨by unfold leaveErr; rw [hr, if_neg h1]⟩
    have E2 : Aside0 (leaveSt t id = { t with l := t.l.eraseIdx i, at_ := leaveAt2 t (i : Int) }) := ⟨by unfold leaveSt; rw [hr, if_neg h1]; rfl⟩
    rw [E1.out, E2.out]
    have hatl : t.at_ < t.l.length := by
      rcases hat.2 with h | ⟨_, h⟩
      · exact h
      · rw [h] at hi; simp at hi
    obtain ⟨N, hN⟩ : ∃ N, t.l.length = N := ⟨_, rfl⟩
    obtain ⟨B, hB⟩ : ∃ B, t.at_ = B := ⟨_, rfl⟩
    have HN := Aside0.mk hN
    have HBB := Aside0.mk hB
    rw [hN] at hi hatl hn
    rw [hB] at hatl hat
    have hat0 := hat.1
    have E3 := Aside0.mk (show leaveAt2 t (i : Int) = if (if (i : Int) < B then B - 1 else B) = (N : Int) - 1 then 0 else if (i : Int) < B then B - 1 else B by unfold leaveAt2 leaveAt; rw [hN, hB])
    clear hr hrc hat hinv ha hN hB
    have hE : ∀ b1 b2, decide ((i : Int) < B) = b1 → ((if (i : Int) < B then B - 1 else B) == ((N - 1 : Nat) : Int)) = b2 → leaveAt2 t (i : Int) = if b2 then 0 else if b1 then B - 1 else B := by
      intro b1 b2 h1 h2
      rw [E3.out]
      subst h1
      by_cases h : (i : Int) < B
      · rw [if_pos h] at h2 ⊢
        cases b2 with
        | true => rw [if_pos (by have := beq_iff_eq.1 h2; omega)]; rfl
        | false => rw [if_neg (by have := beq_eq_false_iff_ne.1 h2; omega)]; simp [h]
      · rw [if_neg h] at h2 ⊢
        cases b2 with
        | true => rw [if_pos (by have := beq_iff_eq.1 h2; omega)]; rfl
        | false => rw [if_neg (by have := beq_eq_false_iff_ne.1 h2; omega)]; simp [h]
    have HE := Aside0.mk hE
    clear hE
    by_cases h5 : (i : Int) < B
    all_goals
      have hx : ∃ x : Int, (if (i : Int) < B then B - 1 else B) = x ∧ 0 ≤ x ∧ x ≤ 1000 ∧ -1 ≤ x := ⟨_, rfl, by split <;> omega, by split <;> omega, by split <;> omega⟩
      cases hb2 : ((if (i : Int) < B then B - 1 else B) == ((N - 1 : Nat) : Int))
      all_goals
        have hfin := Aside0.mk (HE.out _ _ rfl hb2)
        first
          | (rw [if_pos h5] at hb2)
          | (rw [if_neg h5] at hb2)
        clear hx
        go_enter Tryz.func77, Tryz.ntmps77
        go_upto_region 4 with (go_at_call 123; (with_reducible refine (place_r HR.out (by rw [HN.out]; exact hn) _ HA.out).mono ?_); rintro e w1 ⟨rfl, hb⟩; have HB := Aside0.mk hb; clear hb)
        obtain ⟨v, ms, hp⟩ := HA.out.keep (Keep.of_below HB.out)
        obtain ⟨A, c, hv, his⟩ := hp.is
        rw [HN.out] at hv
        subst hv
        have c1 := his.c1
        rw [HN.out] at c1
        have HP := Aside0.mk hp
        have hml := hp.fam.len
        have hrow := hp.row
        rw [HN.out] at hml hrow
        have HROW := Aside0.mk (show RowAt (fun k => (Value.slice A N c).ownBlock = some k) w1 164 1 (.slice A N c) N (encs ptrV ms) from ⟨hrow.own, fun k hk => hk⟩)
        clear hp his hml hrow
        go_wp2_with (go_at_call 124; (with_reducible refine (DeleteMb_calls N c i A ms _ HROW.out hi (by omega)).mono ?_); rintro e w2 ⟨rfl, hr2, hc2⟩; have HST := Aside0.mk (HP.out.erased1 HN.out i hi hr2 hc2); have hgb := HST.out.2.2; have c1 := (blk_cell hgb 1).trans rfl; have f1 := blk_frozen hgb 1; have c2 : w2.cell? ⟨g, 2, none⟩ = some (.int .i64 B) := (by rw [← HBB.out]; exact (blk_cell hgb 2).trans rfl); have f2 := blk_frozen hgb 2; clear hr2 hc2 hgb)
        go_quiet (fail)
        go_wp2
        go_ret
        have hfg : S g := HP.out.fg
        have hc0 := (Chg.of_below HB.out S).trans HST.out.2.1
        first
          | (rw [show leaveAt2 t (i : Int) = 0 by rw [hfin.out]; rfl]
             first
               | exact ⟨rfl, ⟨_, _, ((HST.out.1.moved (B - 1)).keep (w' := World.drewN _ _) (fun k _ _ => rfl)).moved 0⟩, ((((hc0.set hfg 2 (.int .i64 (B - 1))).drewN _).set hfg 2 (.int .i64 0)))⟩
               | exact ⟨rfl, ⟨_, _, ((HST.out.1).keep (w' := World.drewN _ _) (fun k _ _ => rfl)).moved 0⟩, ((hc0.drewN _).set hfg 2 (.int .i64 0))⟩)
          | (rw [show leaveAt2 t (i : Int) = B - 1 by rw [hfin.out]; simp; omega]
             exact ⟨rfl, ⟨_, _, ((HST.out.1.moved (B - 1)).keep (w' := World.drewN _ _) (fun k _ _ => rfl))⟩, ((hc0.set hfg 2 (.int .i64 (B - 1))).drewN _)⟩)
          | (rw [show leaveAt2 t (i : Int) = B by rw [hfin.out]; simp; omega]
             have h9 := HST.out.1
             rw [show ({ t with l := t.l.eraseIdx i } : Tur) = { t with l := t.l.eraseIdx i, at_ := B } by rw [← HBB.out]] at h9
             exact ⟨rfl, ⟨_, _, (h9.keep (w' := World.drewN _ _) (fun k _ _ => rfl))⟩, (hc0.drewN _)⟩)
end Go.Proofs.YtbpoapfkeinjnaaGreatDoor.Ld
namespace Go.Proofs.YtbpoapfkeinjnaaGreatDoor.Ld
open Go.RowKit Go.Proofs.YtbpoapfkeinjnaaGreatDoorW.PrintWords Go.Proofs.YtbpoapfkeinjnaaGreatDoorW.PrintLast Go.Proofs.YtbpoapfkeinjnaaGreatDoorW.PrintMore
set_option linter.unusedVariables false
set_option linter.unusedSimpArgs false
attribute [local go_sem] max2_int min2_int max_two min_two
def RI (w : World) (A : Option Addr) (xs : List Int) : Prop := ReadsOf (Value.int .i64) 0 w A xs.length xs
theorem RI.at_ {w : World} {A : Option Addr} {xs : List Int} (h : RI w A xs) (i : Nat) (hi : i < xs.length) : ∃ ad, A = some ad ∧ w.cell? (ad.add i) = some (.int .i64 (xs.getD i 0)) := by
  obtain ⟨ad, e, hc⟩ := ReadsOf.at_ h (i : Int) (by omega) (by omega)
  exact ⟨ad, e, hc⟩
def indexI (xs : List Int) (id : Int) : Int := fndN (fun x => id == x) (fun i => xs.getD i 0) xs.length
theorem indexI_cases (xs : List Int) (id : Int) : (indexI xs id = -1 ∧ ∀ i, i < xs.length → xs.getD i 0 ≠ id) ∨ ∃ i : Nat, indexI xs id = (i : Int) ∧ i < xs.length ∧ xs.getD i 0 = id := by
  rcases fndN_cases (fun x => id == x) (fun i => xs.getD i 0) xs.length with ⟨h, h1⟩ | ⟨i, h, h1, h2, _⟩
  · exact .inl ⟨h, fun i hi e => by have := h1 i hi; rw [e] at this; simp at this⟩
  · exact .inr ⟨i, h, h1, (beq_iff_eq.1 h2).symm⟩
set_option maxHeartbeats 8000000 in
set_option maxRecDepth 100000 in
theorem Index_calls (A : Option Addr) (n c : Nat) (xs : List Int) (id : Int) (w : World) (hr : RI w A xs) (hx : xs.length = n) (hn : n ≤ 1000) :
    Calls Tryz.prog 154 #[.slice A n c, .int .i64 id] w fun e w' => e = .returned (.int .i64 (indexI xs id)) ∧ Drawn0 w w' := by
  subst hx
  have HR := Aside0.mk hr
  clear hr
  go_enter Tryz.func154, Tryz.ntmps154
  go_wp2
  go_loopg [8] (xs.length + 1) (fun kq v wr => ∃ i : Nat, v = .int .i64 (i : Int) ∧ Aside0 (kq + i = xs.length + 1 ∧ i ≤ xs.length ∧ (∀ j, j < i → (id == xs.getD j 0) = false) ∧ Drawn0 w wr))
  case atStart => exact ⟨0, rfl, ⟨by omega, by omega, fun j hj => by omega, Drawn0.refl _⟩⟩
  case round =>
    obtain ⟨i, rfl, hA⟩ := hrel
    obtain ⟨hk, hi, hall, hd⟩ := hA.out
    have HA := Aside0.mk hall
    have HD := Aside0.mk hd
    have HRW := Aside0.mk (show RI wr A xs from ReadsOf.below HR.out hd.below)
    clear hA hall hd
    by_cases hlt : i < xs.length
    · obtain ⟨ad, rfl, d0⟩ := HRW.out.at_ i hlt
      have p1 : (0 ≤ (i : Int)) = True := eq_true (by omega)
      have p2 : ((i : Int) < (xs.length : Int)) = True := eq_true (by omega)
      obtain ⟨q, hq⟩ : ∃ q, xs.getD i 0 = q := ⟨_, rfl⟩
      rw [hq] at d0
      have HQ := Aside0.mk hq
      clear hq
      cases hb : (id == q)
      · go_wp2
        go_roundg (gk - 1)
        case measure => omega
        case rel =>
          refine ⟨i + 1, rfl, ⟨by omega, by omega, fun j hj => ?_, HD.out⟩⟩
          rcases Nat.lt_succ_iff_lt_or_eq.1 hj with h | rfl
          · exact HA.out j h
          · rw [HQ.out]; exact hb
      · go_wp2
        go_ret
        exact ⟨by unfold indexI; rw [fndN_some hlt (by show (id == xs.getD i 0) = true; rw [HQ.out]; exact hb) HA.out]; rfl, HD.out⟩
    · have hf := Aside0.mk (fndN_none (q := fun x => id == x) (p := fun i => xs.getD i 0) (n := xs.length) (fun j hj => HA.out j (by omega)))
      go_wp2
      go_ret
      exact ⟨by unfold indexI; rw [hf.out]; rfl, HD.out⟩
set_option maxHeartbeats 8000000 in
set_option maxRecDepth 100000 in
theorem Contains_calls (A : Option Addr) (n c : Nat) (xs : List Int) (id : Int) (w : World) (hr : RI w A xs) (hx : xs.length = n) (hn : n ≤ 1000) :
    Calls Tryz.prog 151 #[.slice A n c, .int .i64 id] w fun e w' => e = .returned (.bool (decide (0 ≤ indexI xs id))) ∧ Drawn0 w w' := by
  obtain ⟨r, hr2⟩ : ∃ r, indexI xs id = r := ⟨_, rfl⟩
  have HR2 := Aside0.mk hr2
  rw [hr2]
  clear hr2
  go_enter Tryz.func151, Tryz.ntmps151
  go_wp2_with (go_at_call 154; (with_reducible refine (Index_calls A n c xs id _ hr hx hn).mono ?_); rintro e w1 ⟨rfl, hd⟩; rw [HR2.out]; have HD := Aside0.mk hd; clear hd)
  go_ret
  exact ⟨rfl, HD.out⟩
def Copied (w : World) (n : Nat) (xs : List Int) (e : Ending) (w' : World) : Prop := ∃ A c, e = .returned (.slice A n c) ∧ RI w' A xs ∧ (∀ a, A = some a → 0 < n → w.heap.size ≤ a.block ∧ a.block < w'.heap.size) ∧ Below w.heap.size w w'
theorem own_nil_made (W : World) (e : TypeId) : (W.alloc (.cells #[] e)).ownsRow 0 e 1 (.slice (some ⟨W.heap.size, 0, none⟩) 0 0) 0 [] :=
  ⟨rfl, .inr ⟨W.heap.size, 0, #[], rfl, Nat.zero_le _, heap_alloc_new W _, Nat.le_refl _, by unfold maxLen; omega, rfl, rfl⟩⟩
set_option maxHeartbeats 8000000 in
set_option maxRecDepth 100000 in
theorem Clone_calls (A : Option Addr) (n c : Nat) (xs : List Int) (w : World) (hr : RI w A xs) (hx : xs.length = n) (hn : n ≤ 1000) :
    Calls Tryz.prog 68 #[.slice A n c] w (Copied w n xs) := by
  subst hx
  have HR := Aside0.mk hr
  clear hr
  have kq := fun (w : World) (A : Option Addr) (n c : Nat) => Lib.run_eql_slice_nil (P := Tryz.prog) w 22 3 A n c 0 0 Tryz.underlying22
  cases A with
  | none =>
    obtain rfl : xs = [] := by
      rcases Nat.eq_zero_or_pos xs.length with h | h
      · exact List.eq_nil_of_length_eq_zero h
      · obtain ⟨ad, e, _⟩ := HR.out.at_ 0 h; cases e
    go_enter Tryz.func68, Tryz.ntmps68
    go_wp2
    go_ret
    exact ⟨none, 0, rfl, ⟨rfl, by simp, fun h => by simp at h⟩, (fun a e => by cases e), Below.refl _ w⟩
  | some ad =>
    have HB := Aside0.mk (below_alloc (Below.refl _ w) (.cells #[] 3))
    have HN := Aside0.mk (own_nil_made w 3)
    go_enter Tryz.func68, Tryz.ntmps68
    go_wp2_with (at_builtin; go_loud (refine print_append_row_of (w0 := w) (Value.int .i64) (0 : Int) 0 rfl (.tmp 5) (.tmp 6) 22 3 (.int .i64 0) 8 rfl Tryz.underlying22 info3 rfl (by decide) (fun _ => rfl) (.slice (some ⟨w.heap.size, 0, none⟩) 0 0) [] xs (some ad) xs.length c rfl rfl ?a1 ?a2 ?a3 ?a4 ?a5 ?_); (case a1 => exact HN.out); (case a2 => exact ReadsOf.below HR.out HB.out); (case a3 => exact HB.out.mono (Nat.zero_le _)); (case a4 => exact Nat.zero_le _); (case a5 => simp; omega); (intro v6 w6 ho hbl hgr hat; have HO := Aside0.mk ho; have HG := Aside0.mk hgr; have HAT := Aside0.mk hat; clear ho hbl hgr hat))
    go_ret
    have ho := HO.out
    rw [List.nil_append] at ho
    obtain ⟨A6, c6, rfl, hrd⟩ := own_reads_of (d := (0 : Int)) ho
    refine ⟨A6, c6, rfl, hrd, fun a ha hn0 => ?_, HB.out.trans ⟨HG.out.os, HG.out.tape, HG.out.output, HG.out.size, fun k hk => HG.out.block k (by have := HB.out.size; simp; omega) (fun e => by injection e with e; have e2 : k = w.heap.size := e; omega)⟩⟩
    subst ha
    have hlt := own_lt ho a.block rfl
    refine ⟨?_, hlt⟩
    rcases HAT.out with h | ⟨b, h, hb⟩
    · injection h with h; rw [h]; exact Nat.le_refl _
    · injection h with h; rw [h]; simp at hb; omega
end Go.Proofs.YtbpoapfkeinjnaaGreatDoor.Ld
