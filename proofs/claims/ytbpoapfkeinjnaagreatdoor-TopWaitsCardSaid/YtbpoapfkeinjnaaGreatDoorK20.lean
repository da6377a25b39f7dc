/- The engine of the yard and what it leans on, part 20. -/
import Derived.Test.YtbpoapfkeinjnaaGreatDoorK19
namespace Go.Proofs.YtbpoapfkeinjnaaGreatDoor.Ld
open Go.RowKit Go.Proofs.YtbpoapfkeinjnaaGreatDoorW.PrintWords Go.Proofs.YtbpoapfkeinjnaaGreatDoorW.PrintLast Go.Proofs.YtbpoapfkeinjnaaGreatDoorW.PrintMore
set_option linter.unusedVariables false
set_option linter.unusedSimpArgs false
set_option linter.unnecessarySimpa false
attribute [local go_sem] max2_int min2_int max_two min_two
noncomputable def prF (G : Gr) (rt : Nat → Nat) (pr : Nat → Int) : Nat → Nat → Int
  | 0, _ => -1
  | n + 1, t => if rchB G (rt n) t then max (prF G rt pr n t) (pr n) else prF G rt pr n t
noncomputable def prL (G : Gr) (rt : Nat → Nat) (pr : Nat → Int) (n : Nat) : List Int := (List.range G.N).map fun t => prF G rt pr n t
def mid (N : Nat) (f : Nat → Int) (p : Int) (ids : List Nat) (m : Nat) : List Int := (List.range N).map fun t => if t ∈ ids.take m then max (f t) p else f t
theorem mid_len (N : Nat) (f : Nat → Int) (p : Int) (ids : List Nat) (m : Nat) : (mid N f p ids m).length = N := by simp [mid]
theorem mid_get (N : Nat) (f : Nat → Int) (p : Int) (ids : List Nat) (m t : Nat) (ht : t < N) : (mid N f p ids m).getD t 0 = if t ∈ ids.take m then max (f t) p else f t := by
  unfold mid
  rw [List.getD_eq_getElem?_getD, List.getElem?_map, List.getElem?_range ht]
  rfl
theorem mid_succ (N : Nat) (f : Nat → Int) (p : Int) (ids : List Nat) (m : Nat) (hm : m < ids.length) (hx : ids.getD m 0 < N) :
    (mid N f p ids m).set (ids.getD m 0) (max ((mid N f p ids m).getD (ids.getD m 0) 0) p) = mid N f p ids (m + 1) := by
  rw [mid_get _ _ _ _ _ _ hx]
  apply List.ext_getElem
  · rw [List.length_set, mid_len, mid_len]
  · intro t h1 h2
    rw [mid_len] at h2
    rw [List.getElem_set]
    have hg : ids[m] = ids.getD m 0 := by rw [List.getD_eq_getElem?_getD, List.getElem?_eq_getElem hm]; rfl
    have e1 : (mid N f p ids (m + 1))[t]'(by rw [mid_len]; exact h2) = if t ∈ ids.take (m + 1) then max (f t) p else f t := by simp [mid]
    have e2 : (mid N f p ids m)[t]'(by rw [mid_len]; exact h2) = if t ∈ ids.take m then max (f t) p else f t := by simp [mid]
    rw [e1, e2, List.take_succ_eq_append_getElem hm, hg]
    by_cases e : ids.getD m 0 = t
    · rw [if_pos e, e, if_pos (by simp : t ∈ ids.take m ++ [t])]
      by_cases h : t ∈ ids.take m
      · rw [if_pos h]; omega
      · rw [if_neg h]
    · rw [if_neg e]
      have : (t ∈ ids.take m ++ [ids.getD m 0]) ↔ t ∈ ids.take m := by
        rw [List.mem_append, List.mem_singleton]
        exact ⟨fun h => h.elim id (fun h => absurd h.symm e), .inl⟩
      by_cases h : t ∈ ids.take m
      · rw [if_pos h, if_pos (this.2 h)]
      · rw [if_neg h, if_neg (fun h' => h (this.1 h'))]
theorem mid_all (G : Gr) (rt : Nat → Nat) (pr : Nat → Int) (n : Nat) (ids : List Nat) (h : ∀ j, j ∈ ids ↔ rchB G (rt n) j = true) : mid G.N (prF G rt pr n) (pr n) ids ids.length = prL G rt pr (n + 1) := by
  unfold mid prL
  rw [List.take_length]
  refine List.map_congr_left fun t _ => ?_
  show _ = if rchB G (rt n) t then max (prF G rt pr n t) (pr n) else prF G rt pr n t
  by_cases e : rchB G (rt n) t = true
  · rw [if_pos e, if_pos ((h t).2 e)]
  · rw [if_neg e, if_neg (fun hm => e ((h t).1 hm))]
theorem mid_zero (N : Nat) (f : Nat → Int) (p : Int) (ids : List Nat) : mid N f p ids 0 = (List.range N).map f := by
  unfold mid
  refine List.map_congr_left fun t _ => ?_
  rw [if_neg (by simp)]
theorem prL_zero (G : Gr) (rt : Nat → Nat) (pr : Nat → Int) : prL G rt pr 0 = List.replicate G.N (-1) := by
  unfold prL
  apply List.ext_getElem
  · simp
  · intro t h1 h2; simp [prF]
theorem prL_len (G : Gr) (rt : Nat → Nat) (pr : Nat → Int) (n : Nat) : (prL G rt pr n).length = G.N := by simp [prL]
theorem nodup_le (l : List Nat) (N : Nat) (hd : l.Nodup) (h : ∀ j, j ∈ l → j < N) : l.length ≤ N := by
  have := pigeon N (nats l) (List.pairwise_map.2 (hd.imp (fun hab e => hab (Int.ofNat_inj.1 e)))) (fun x hx => by
    obtain ⟨y, hy, rfl⟩ := List.mem_map.1 hx
    exact ⟨y, rfl, h y hy⟩)
  rwa [nats_len] at this
structure Rqs (w : World) (A : Option Addr) (n : Nat) (rt : Nat → Nat) (wt pr : Nat → Int) : Prop where
  at_ : ∀ i, i < n → ∃ ad, A = some ad ∧ w.cell? (ad.add (i * 3)) = some (.int .i64 (rt i : Int)) ∧ w.cell? ⟨(ad.add (i * 3)).block, (ad.add (i * 3)).off + 1, none⟩ = some (.int .i64 (wt i)) ∧ w.cell? ⟨(ad.add (i * 3)).block, (ad.add (i * 3)).off + 2, none⟩ = some (.int .i64 (pr i))
theorem Rqs.below {w w' : World} {A : Option Addr} {n : Nat} {rt : Nat → Nat} {wt pr : Nat → Int} (h : Rqs w A n rt wt pr) (hb : Below w.heap.size w w') : Rqs w' A n rt wt pr :=
  ⟨fun t ht => by obtain ⟨ad, h1, h2, h3, h4⟩ := h.at_ t ht; exact ⟨ad, h1, pw_cell_below hb h2, pw_cell_below hb h3, pw_cell_below hb h4⟩⟩
set_option maxHeartbeats 8000000 in
set_option maxRecDepth 100000 in
theorem Of_calls (S : Nat → Prop) (g : Nat) (G : Gr) (A : Option Addr) (n c : Nat) (rt : Nat → Nat) (wt pr : Nat → Int) (w : World) (H : GrAt S w g G) (hv : GrInv G) (hz : TzTab w) (hN : 1 ≤ G.N) (hq : Rqs w A n rt wt pr) (hn : n ≤ 1000) (hrt : ∀ i, i < n → rt i < G.N) :
    Calls Tryz.prog 51 #[.pointer (some ⟨g, 0, none⟩), .slice A n c] w fun e w' => ∃ v, e = .returned v ∧ NewRow w v (prL G rt pr n) w' := by
  have HG := Aside0.mk H
  have HV := Aside0.mk hv
  have HZ := Aside0.mk hz
  have HQ := Aside0.mk hq
  have HRT := Aside0.mk hrt
  have hN64 := hv.N64
  obtain ⟨N, hNN⟩ : ∃ N, G.N = N := ⟨_, rfl⟩
  have HNN := Aside0.mk hNN
  rw [hNN] at hN hN64
  clear H hv hz hq hrt hNN
  go_enter Tryz.func51, Tryz.ntmps51
  go_upto_region 2 with (first
    | (go_at_call 92; go_loud (refine (N_calls S g G _ (HG.out.keep (Keep.of_below (below_alloc (Below.refl _ w) _)))).mono ?_); rintro e w2 ⟨rfl, hd⟩; rw [HNN.out]; have HD := Aside0.mk hd; clear hd)
    | (go_at_call 91; go_loud (refine (Repeat_calls w.heap.size (-1) N hN (by omega) _ ?hc).mono ?_); (case hc => exact pw_cell_below HD.out.below ((blk_cell (heap_alloc_new w (.cells #[.int .i64 (-1)] 3)) 0).trans rfl)); rintro e w3 ⟨v5, rfl, hr⟩; have HR := Aside0.mk hr; clear hr))
  have hbw0 : Below w.heap.size w w3 := below_step (below_step (below_alloc (Below.refl _ w) _) HD.out.below) HR.out.2
  have hrow0 : RowAt (fun k => w.heap.size ≤ k) w3 3 1 v5 N (ints (prL G rt pr 0)) := by
    have h := HR.out.1
    rw [List.length_replicate] at h
    rw [prL_zero, HNN.out]
    have h2 := (below_step (below_alloc (Below.refl _ w) (.cells #[.int .i64 (-1)] 3)) HD.out.below).size
    exact ⟨h.own, fun k hk => Nat.le_trans h2 (h.fp k hk)⟩
  obtain ⟨b, cp, rfl, _, _⟩ := hrow0.own.form (by omega)
  have HB0 := Aside0.mk hbw0
  have HR0 := Aside0.mk hrow0
  have HBB := Aside0.mk (hrow0.fp b rfl)
  clear hbw0 hrow0 HR
  go_wp2
  go_loopg [16] (n + 1) (fun kq v16 wr => ∃ i : Nat, v16 = .int .i64 (i : Int) ∧ Aside0 (kq + i = n + 1 ∧ i ≤ n ∧ RowAt (fun k => w.heap.size ≤ k) wr 3 1 (.slice (some ⟨b, 0, none⟩) N cp) N (ints (prL G rt pr i)) ∧ Below w.heap.size w wr))
  case atStart => exact ⟨0, rfl, ⟨by omega, by omega, HR0.out, HB0.out⟩⟩
  case round =>
    obtain ⟨i, rfl, hA⟩ := hrel
    obtain ⟨hkq, hi, hrow, hbw⟩ := hA.out
    have HKQ := Aside0.mk hkq
    have HROW := Aside0.mk hrow
    have HBW := Aside0.mk hbw
    clear hA hkq hrow hbw
    obtain ⟨wo, rfl⟩ : ∃ wo : World, wo = wr := ⟨_, rfl⟩
    obtain ⟨ko, rfl⟩ : ∃ ko : Nat, ko = gk := ⟨_, rfl⟩
    by_cases hlt : i < n
    · obtain ⟨ad, rfl, c0, c1, c2⟩ := (HQ.out.below HBW.out).at_ i hlt
      have hri := HRT.out i hlt
      obtain ⟨r, hr⟩ : ∃ r, rt i = r := ⟨_, rfl⟩
      obtain ⟨p, hp⟩ : ∃ p, pr i = p := ⟨_, rfl⟩
      obtain ⟨wg, hwg⟩ : ∃ wg, wt i = wg := ⟨_, rfl⟩
      rw [hr] at c0 hri
      rw [hp] at c2
      rw [hwg] at c1
      have HRP := Aside0.mk (And.intro hr hp)
      have HRI := Aside0.mk hri
      clear hr hp hwg hri
      have q1 : (0 ≤ (i : Int)) = True := eq_true (by omega)
      have q2 : ((i : Int) < (n : Int)) = True := eq_true (by omega)
      go_upto_block 2 with (go_at_call 93; go_loud (refine (Reach_calls S g G r _ (HG.out.keep (Keep.of_below (below_alloc HBW.out _))) HV.out HRI.out (fun j hj => pw_cell_below (below_alloc HBW.out _) (HZ.out j hj))).mono ?_); rintro e w2 ⟨v23, ids, R, hre, rfl, hri, hmem, hnd, hb2⟩; have HRE := Aside0.mk (And.intro hre (And.intro hmem (And.intro hri hb2))); have HRN := Aside0.mk hnd; obtain ⟨AI, ci, rfl⟩ := hri.slice; clear hre hmem hri hnd hb2)
      have HBX := Aside0.mk (And.intro (show Below wo.heap.size wo w2 from below_step (below_alloc (Below.refl _ wo) _) HRE.out.2.2.2) (blk_below (heap_alloc_new wo (.cells #[.int .i64 (r : Int), .int .i64 wg, .int .i64 p] 88)) HRE.out.2.2.2))
      have hbo : b < wo.heap.size := own_lt HROW.out.own b rfl
      have HLEN := Aside0.mk (show ids.length ≤ N from by
        have hnd := HRN.out
        have := nodup_le ids N hnd (fun j hj => by have := HRE.out.1.bd j ((HRE.out.2.1 j).1 hj); rw [HNN.out] at this; exact this)
        exact this)
      go_wp2
      go_loopg [9, 25] (ids.length + 1) (fun kq v9 v25 wr => ∃ m : Nat, v25 = .int .i64 (m : Int) ∧ Aside0 (kq + m = ids.length + 1 ∧ m ≤ ids.length ∧ RowAt (fun k => w.heap.size ≤ k) wr 3 1 (.slice (some ⟨b, 0, none⟩) N cp) N (ints (mid N (prF G rt pr i) p ids m)) ∧ Chg (fun k => k = b) w2 wr))
      case atStart => exact ⟨0, rfl, ⟨by omega, by omega, by rw [mid_zero, ← HNN.out]; have h := HROW.out.keep (Keep.of_below HBX.out.1); rw [← HNN.out] at h; exact h, Chg.refl _ _⟩⟩
      case round =>
        obtain ⟨m, rfl, hA⟩ := hrel
        obtain ⟨hkm, hm, hrw, hch⟩ := hA.out
        have HKM := Aside0.mk hkm
        have HRW := Aside0.mk hrw
        have HCH := Aside0.mk hch
        clear hA hkm hrw hch
        by_cases hmt : m < ids.length
        · obtain ⟨x, hx⟩ : ∃ x, ids.getD m 0 = x := ⟨_, rfl⟩
          have hxm : x ∈ ids := hx ▸ getD_mem ids m hmt
          have hxN : x < N := by have := HRE.out.1.bd x ((HRE.out.2.1 x).1 hxm); rw [HNN.out] at this; exact this
          have hrk := HRE.out.2.2.1.keep (w' := wr) (fun k hk hT => HCH.out.block k hk (fun e => by have h1 : (wo.alloc (.cells #[.int .i64 (r : Int), .int .i64 wg, .int .i64 p] 88)).heap.size ≤ k := hT; rw [size_alloc] at h1; omega))
          obtain ⟨A9, c9, hv9, hri9⟩ := RowAt.ri hrk
          injection hv9 with hv9 _ hc9
          subst hv9; subst hc9
          obtain ⟨id, rfl, ic⟩ := RI.at_ hri9.1 m (by rw [nats_len]; exact hmt)
          rw [nats_getD _ _ hmt, hx] at ic
          have e2 : wr.cell? ⟨wo.heap.size, 2, none⟩ = some (.int .i64 p) := (blk_cell (HCH.out.blk HBX.out.2 (by omega)) 2).trans rfl
          obtain ⟨q, hq⟩ : ∃ q, (mid N (prF G rt pr i) p ids m).getD x 0 = q := ⟨_, rfl⟩
          obtain ⟨cx, fx⟩ := HRW.out.int_at (x : Int) (by omega) (by omega)
          rw [Int.toNat_natCast, show rd (mid N (prF G rt pr i) p ids m) (x : Int) = q from by unfold rd; rw [Int.toNat_natCast]; exact hq] at cx
          rw [Int.toNat_natCast] at fx
          have HP := Aside0.mk (And.intro hx hq)
          have q1 : (0 ≤ (m : Int)) = True := eq_true (by omega)
          have q2 : ((m : Int) < (ids.length : Int)) = True := eq_true (by omega)
          have q3 : (0 ≤ (x : Int)) = True := eq_true (by omega)
          have q4 : ((x : Int) < (N : Int)) = True := eq_true (by omega)
          clear hx hxm hrk hri9 hq
          go_upto_region 8 with (fail)
          refine Qt.wp_region_quiet_tail 10 (by kernel_rfl) (by kernel_rfl) ?_
          simp only [List.take_succ_cons, List.take_zero, List.drop_succ_cons, List.drop_zero]
          repeat (go_big_quiet_step ((fail)))
          refine wpQuiet_nil ?_
          intro w9 hw9
          obtain ⟨m9, rfl⟩ := hw9
          have hlen := HLEN.out
          go_wp2
          all_goals go_roundg (gk - 1)
          all_goals first | (have := HKM.out; omega) | skip
          all_goals
            have hst := mid_succ N (prF G rt pr i) p ids m hmt (by rw [HP.out.1]; exact hxN)
            rw [HP.out.1, HP.out.2] at hst
            refine ⟨m + 1, by rw [show ((m : Int) + 1) = ((m + 1 : Nat) : Int) by omega], ⟨by have := HKM.out; omega, by omega, ?_, (HCH.out.drewN m9).set rfl x _⟩⟩
            rw [← hst]
            have hput := (HRW.out.keep (w' := wr.drewN m9) (fun k _ _ => rfl)).int_put (x : Int) (max q p)
            rw [Int.toNat_natCast] at hput
          · rw [show max q p = p by omega] at hput ⊢; exact hput
          · rw [show max q p = q by omega] at hput ⊢; exact hput
        · have p2 : ((m : Int) < (ids.length : Int)) = False := eq_false (by omega)
          go_wp2
          obtain rfl : m = ids.length := by omega
          go_roundg (ko - 1)
          case measure => have := HKQ.out; omega
          case rel =>
            refine ⟨i + 1, by rw [show ((i : Int) + 1) = ((i + 1 : Nat) : Int) by omega], ⟨by have := HKQ.out; omega, by omega, ?_, Chg.to_below (below_step HBW.out HBX.out.1) HCH.out (fun k hk => hk ▸ HBB.out)⟩⟩
            have h := mid_all G rt pr i ids (fun j => by rw [HRE.out.2.1 j, HRP.out.1, rchB_of HRE.out.1 j])
            rw [HRP.out.2, HNN.out] at h
            rw [← h]
            exact HRW.out
    · have p2 : ((i : Int) < (n : Int)) = False := eq_false (by omega)
      go_wp2
      go_ret
      obtain rfl : i = n := by omega
      refine ⟨_, rfl, ?_, HBW.out⟩
      rw [prL_len, HNN.out]
      exact HROW.out
end Go.Proofs.YtbpoapfkeinjnaaGreatDoor.Ld
namespace Go.Proofs.YtbpoapfkeinjnaaGreatDoor.Ld
open Go.RowKit Go.Proofs.YtbpoapfkeinjnaaGreatDoorW.PrintWords Go.Proofs.YtbpoapfkeinjnaaGreatDoorW.PrintLast Go.Proofs.YtbpoapfkeinjnaaGreatDoorW.PrintMore
set_option linter.unusedVariables false
set_option linter.unusedSimpArgs false
set_option linter.unnecessarySimpa false
attribute [local go_sem] max2_int min2_int max_two min_two
theorem is58_calls (id cost : Int) (b : Nat) (r : Int) (w : World) (hc : w.cell? ⟨b, 0, none⟩ = some (.int .i64 r)) (q : Bool) (hq : decide (id = r) = q) :
    Calls Tryz.prog 58 #[.agg #[.int .i64 id, .int .i64 cost], .pointer (some ⟨b, 0, none⟩)] w fun e w' => e = .returned (.bool q) ∧ Below w.heap.size w w' := by
  have hb := below_alloc (Below.refl _ w) (.cells #[.int .i64 id, .int .i64 cost] 112)
  have HB := Aside0.mk hb
  have hc2 := pw_cell_below hb hc
  have hn := heap_alloc_new w (.cells #[.int .i64 id, .int .i64 cost] 112)
  have c0 := (blk_cell hn 0).trans rfl
  have hq2 : (id == r) = q := by rw [← hq]; rfl
  clear hn hb hq
  go_enter Tryz.func58, Tryz.ntmps58
  go_wp2
  go_ret
  exact ⟨rfl, HB.out⟩
def isId58 (r : Int) (x : Wt) : Bool := decide (x.id = r)
def wantAt (ws : List Wt) (r : Int) : Int := fndN (isId58 r) (fun i => ws.getD i wt0) ws.length
set_option maxHeartbeats 8000000 in
set_option maxRecDepth 100000 in
theorem want_idx (T : Nat → Prop) (ws : List Wt) (n c b : Nat) (A : Option Addr) (r : Int) (w : World) (hw : RowAt T w 112 2 (.slice A n c) n (flat encWt ws)) (hn : ws.length = n) (hn2 : n ≤ 1000) (hc : w.cell? ⟨b, 0, none⟩ = some (.int .i64 r)) :
    Calls Tryz.prog 57 #[.slice A n c, .func (.func 58) #[] #[.pointer (some ⟨b, 0, none⟩)]] w fun e w' => e = .returned (.int .i64 (wantAt ws r)) ∧ Below w.heap.size w w' := by
  have HW := Aside0.mk hw
  have HC := Aside0.mk hc
  have HN := Aside0.mk hn
  obtain ⟨ri, hri⟩ : ∃ ri, wantAt ws r = ri := ⟨_, rfl⟩
  have HRI := Aside0.mk hri
  rw [hri]
  clear hw hc hn hri
  go_enter Tryz.func57, Tryz.ntmps57
  go_wp2
  go_loopg [8] (n + 1) (fun kq v8 wr => ∃ j : Nat, v8 = .int .i64 (j : Int) ∧ Aside0 (kq + j = n + 1 ∧ j ≤ n ∧ (∀ m, m < j → isId58 r (ws.getD m wt0) = false) ∧ Below w.heap.size w wr))
  case atStart => exact ⟨0, rfl, ⟨by omega, by omega, fun m hm => absurd hm (Nat.not_lt_zero _), Below.refl _ _⟩⟩
  case round =>
    obtain ⟨j, rfl, hA⟩ := hrel
    obtain ⟨hkq, hj, hno, hb⟩ := hA.out
    have HB := Aside0.mk hb
    have HNO := Aside0.mk hno
    have HKQ := Aside0.mk hkq
    clear hA hb hno hkq
    by_cases hlt : j < n
    · obtain ⟨ad, rfl, d0, d1⟩ := (HW.out.keep (Keep.of_below HB.out)).item2 j (by rw [HN.out]; exact hlt)
      obtain ⟨id, hid⟩ : ∃ id, (ws.getD j wt0).id = id := ⟨_, rfl⟩
      obtain ⟨co, hco⟩ : ∃ co, (ws.getD j wt0).cost = co := ⟨_, rfl⟩
      rw [hid] at d0
      rw [hco] at d1
      have HX := Aside0.mk hid
      obtain ⟨q, hq⟩ : ∃ q, decide (id = r) = q := ⟨_, rfl⟩
      have HQ := Aside0.mk hq
      have p1 : (0 ≤ (j : Int)) = True := eq_true (by omega)
      have p2 : ((j : Int) < (n : Int)) = True := eq_true (by omega)
      clear hid hco hq
      cases q
      · go_wp2_with (go_at_call 58; go_loud (refine (is58_calls id co b r _ (pw_cell_below HB.out HC.out) false HQ.out).mono ?_); rintro e w2 ⟨rfl, hd2⟩; have HB2 := Aside0.mk (below_step HB.out hd2); clear hd2)
        go_roundg (gk - 1)
        case measure => have := HKQ.out; omega
        case rel =>
          refine ⟨j + 1, by rw [show ((j : Int) + 1) = ((j + 1 : Nat) : Int) by omega], ⟨by have := HKQ.out; omega, by omega, fun m hm => ?_, HB2.out⟩⟩
          rcases Nat.lt_succ_iff_lt_or_eq.1 hm with h | rfl
          · exact HNO.out m h
          · unfold isId58; rw [HX.out]; exact HQ.out
      · go_wp2_with (go_at_call 58; go_loud (refine (is58_calls id co b r _ (pw_cell_below HB.out HC.out) true HQ.out).mono ?_); rintro e w2 ⟨rfl, hd2⟩; have HB2 := Aside0.mk (below_step HB.out hd2); clear hd2)
        go_ret
        have hv := fndN_some (q := isId58 r) (p := fun i => ws.getD i wt0) (n := ws.length) (i := j) (by rw [HN.out]; exact hlt) (by unfold isId58; rw [HX.out]; exact HQ.out) HNO.out
        have hw := HRI.out
        unfold wantAt at hw
        rw [hv] at hw
        exact ⟨by rw [← hw]; rfl, HB2.out⟩
    · have p2 : ((j : Int) < (n : Int)) = False := eq_false (by omega)
      go_wp2
      go_ret
      have hv := fndN_none (q := isId58 r) (p := fun i => ws.getD i wt0) (n := ws.length) (fun m hm => HNO.out m (by have := HN.out; omega))
      have hw := HRI.out
      unfold wantAt at hw
      rw [hv] at hw
      exact ⟨by rw [← hw]; rfl, HB.out⟩
end Go.Proofs.YtbpoapfkeinjnaaGreatDoor.Ld
namespace Go.Proofs.YtbpoapfkeinjnaaGreatDoor.Ld
open Go.RowKit Go.Proofs.YtbpoapfkeinjnaaGreatDoorW.PrintWords Go.Proofs.YtbpoapfkeinjnaaGreatDoorW.PrintLast Go.Proofs.YtbpoapfkeinjnaaGreatDoorW.PrintMore
set_option linter.unusedVariables false
set_option linter.unusedSimpArgs false
set_option linter.unnecessarySimpa false
attribute [local go_sem] max2_int min2_int max_two min_two
theorem info29 : (Tryz.prog.info? 29).map (fun i => (i.zero, i.size, i.bytes)) = some (some (.agg #[.int .i64 0, .int .i64 0]), 2, 16) := by kernel_rfl
theorem own_nil_of (W : World) (e : TypeId) (sz : Nat) : (W.alloc (.cells #[] e)).ownsRow 0 e sz (.slice (some ⟨W.heap.size, 0, none⟩) 0 0) 0 [] :=
  ⟨by simp, .inr ⟨W.heap.size, 0, #[], rfl, Nat.zero_le _, heap_alloc_new W _, Nat.le_refl _, by unfold maxLen; omega, by simp, by simp⟩⟩
theorem clone_end {w w6 : World} {e : TypeId} {sz n : Nat} {v6 : Value} {xs : List Value} {e2 : TypeId} (ho : w6.ownsRow 0 e sz v6 n xs) (hg : (w.alloc (.cells #[] e2)).grownBy w6 (some w.heap.size)) (hat : v6.ownBlock = some w.heap.size ∨ v6.ownBlock = some (w.alloc (.cells #[] e2)).heap.size) : NewR w e sz v6 n xs w6 := by
  have hb := below_alloc (Below.refl _ w) (.cells #[] e2)
  refine ⟨⟨ho, fun k hk => ?_⟩, hb.trans ⟨hg.os, hg.tape, hg.output, hg.size, fun k hk => hg.block k (by have := hb.size; omega) (fun e => by injection e with e; omega)⟩⟩
  rcases hat with h | h
  · rw [h] at hk; injection hk with hk; omega
  · rw [h] at hk; injection hk with hk; have := hb.size; omega
set_option maxHeartbeats 8000000 in
set_option maxRecDepth 100000 in
theorem Clone33_calls (T : Nat → Prop) (A : Option Addr) (n c : Nat) (xs : List Value) (w : World) (hr : RowAt T w 29 2 (.slice A n c) n xs) (h1 : ∀ u, u ∈ xs → u.oneCell' = true) (hn : n ≤ 1000000) :
    Calls Tryz.prog 33 #[.slice A n c] w fun en w' => ∃ v, en = .returned v ∧ NewR w 29 2 v n xs w' := by
  have HR := Aside0.mk hr
  have H1 := Aside0.mk h1
  have kq := fun (w : World) (A : Option Addr) (n c : Nat) => Lib.run_eql_slice_nil (P := Tryz.prog) w 27 29 A n c 0 0 Tryz.underlying27
  clear h1
  cases A with
  | none =>
    obtain rfl : n = 0 := by
      rcases hr.own.2 with ⟨_, h⟩ | ⟨g, cap, cur, h, _⟩
      · exact h
      · cases h
    obtain rfl : xs = [] := List.eq_nil_of_length_eq_zero (by have := hr.own.1; omega)
    clear hr
    go_enter Tryz.func33, Tryz.ntmps33
    go_wp2
    go_ret
    exact ⟨.slice none 0 0, rfl, RowAt.nil _ _ _ _, Below.refl _ w⟩
  | some ad =>
    have HB := Aside0.mk (below_alloc (Below.refl _ w) (.cells #[] 29))
    have HN := Aside0.mk (own_nil_of w 29 2)
    have HL := Aside0.mk (show xs.length = n * 2 from hr.own.1)
    have HC := Aside0.mk (show ∀ j u, xs[j]? = some u → (w.alloc (.cells #[] 29)).cell? (ad.add j) = some u from fun j u hj => by
      rcases HR.out.own.2 with ⟨h, _⟩ | ⟨g, cap, cur, h, _⟩
      · cases h
      · injection h with h _ _
        injection h with h
        subst h
        exact pw_cell_below HB.out (HR.out.own.cells (g := g) rfl j u hj))
    obtain ⟨i0, hi, hz0, hz1, hz2⟩ := info_parts info29
    have HI := Aside0.mk (And.intro hi (And.intro hz0 (And.intro hz1 hz2)))
    clear hr hi hz0 hz1 hz2
    go_enter Tryz.func33, Tryz.ntmps33
    go_wp2_with (at_builtin; go_loud (refine wpList_append_own_at _ rfl (.tmp 5) (.tmp 6) 27 rfl 0 29 i0 (.agg #[.int .i64 0, .int .i64 0]) 2 16 Tryz.underlying27 HI.out.1 HI.out.2.1 HI.out.2.2.1 HI.out.2.2.2 rfl (by decide) (.slice (some ⟨w.heap.size, 0, none⟩) 0 0) 0 [] rfl ?a1 ad n c xs rfl ?a2 ?a3 ?a4 ?a5 ?a6 (Nat.zero_le _) ?_); (case a1 => exact HN.out); (case a2 => exact HL.out); (case a3 => exact HC.out); (case a4 => exact H1.out); (case a5 => simp only [maxLen]; omega); (case a6 => omega); (intro v6 w6 ho hgr _ hat; have HO := Aside0.mk ho; have HG := Aside0.mk hgr; have HAT := Aside0.mk hat; clear ho hgr hat))
    go_ret
    have ho := HO.out
    rw [Nat.zero_add, List.nil_append] at ho
    exact ⟨v6, rfl, clone_end ho HG.out HAT.out⟩
set_option maxHeartbeats 8000000 in
set_option maxRecDepth 100000 in
theorem Clone28_calls (T : Nat → Prop) (A : Option Addr) (n c : Nat) (xs : List Value) (w : World) (hr : RowAt T w 52 5 (.slice A n c) n xs) (h1 : ∀ u, u ∈ xs → u.oneCell' = true) (hn : n ≤ 1000000) :
    Calls Tryz.prog 28 #[.slice A n c] w fun en w' => ∃ v, en = .returned v ∧ NewR w 52 5 v n xs w' := by
  have HR := Aside0.mk hr
  have H1 := Aside0.mk h1
  have kq := fun (w : World) (A : Option Addr) (n c : Nat) => Lib.run_eql_slice_nil (P := Tryz.prog) w 48 52 A n c 0 0 Tryz.underlying48
  clear h1
  cases A with
  | none =>
    obtain rfl : n = 0 := by
      rcases hr.own.2 with ⟨_, h⟩ | ⟨g, cap, cur, h, _⟩
      · exact h
      · cases h
    obtain rfl : xs = [] := List.eq_nil_of_length_eq_zero (by have := hr.own.1; omega)
    clear hr
    go_enter Tryz.func28, Tryz.ntmps28
    go_wp2
    go_ret
    exact ⟨.slice none 0 0, rfl, RowAt.nil _ _ _ _, Below.refl _ w⟩
  | some ad =>
    have HB := Aside0.mk (below_alloc (Below.refl _ w) (.cells #[] 52))
    have HN := Aside0.mk (own_nil_of w 52 5)
    have HL := Aside0.mk (show xs.length = n * 5 from hr.own.1)
    have HC := Aside0.mk (show ∀ j u, xs[j]? = some u → (w.alloc (.cells #[] 52)).cell? (ad.add j) = some u from fun j u hj => by
      rcases HR.out.own.2 with ⟨h, _⟩ | ⟨g, cap, cur, h, _⟩
      · cases h
      · injection h with h _ _
        injection h with h
        subst h
        exact pw_cell_below HB.out (HR.out.own.cells (g := g) rfl j u hj))
    obtain ⟨i0, hi, hz0, hz1, hz2⟩ := info_parts info52
    have HI := Aside0.mk (And.intro hi (And.intro hz0 (And.intro hz1 hz2)))
    clear hr hi hz0 hz1 hz2
    go_enter Tryz.func28, Tryz.ntmps28
    go_wp2_with (at_builtin; go_loud (refine wpList_append_own_at _ rfl (.tmp 5) (.tmp 6) 48 rfl 0 52 i0 (.agg #[.int .i64 0, .int .i64 0, .int .i64 0, .int .i64 0, .int .i64 0]) 5 40 Tryz.underlying48 HI.out.1 HI.out.2.1 HI.out.2.2.1 HI.out.2.2.2 rfl (by decide) (.slice (some ⟨w.heap.size, 0, none⟩) 0 0) 0 [] rfl ?a1 ad n c xs rfl ?a2 ?a3 ?a4 ?a5 ?a6 (Nat.zero_le _) ?_); (case a1 => exact HN.out); (case a2 => exact HL.out); (case a3 => exact HC.out); (case a4 => exact H1.out); (case a5 => simp only [maxLen]; omega); (case a6 => omega); (intro v6 w6 ho hgr _ hat; have HO := Aside0.mk ho; have HG := Aside0.mk hgr; have HAT := Aside0.mk hat; clear ho hgr hat))
    go_ret
    have ho := HO.out
    rw [Nat.zero_add, List.nil_append] at ho
    exact ⟨v6, rfl, clone_end ho HG.out HAT.out⟩
end Go.Proofs.YtbpoapfkeinjnaaGreatDoor.Ld
namespace Go.Proofs.YtbpoapfkeinjnaaGreatDoor.Ld
open Go.RowKit Go.Proofs.YtbpoapfkeinjnaaGreatDoorW.PrintWords Go.Proofs.YtbpoapfkeinjnaaGreatDoorW.PrintLast Go.Proofs.YtbpoapfkeinjnaaGreatDoorW.PrintMore
set_option linter.unusedVariables false
set_option linter.unusedSimpArgs false
set_option linter.unnecessarySimpa false
attribute [local go_sem] max2_int min2_int max_two min_two
def FitsPost (S : Nat → Prop) (g : Nat) (K : EK) (R : Eng → List Nat → Prop) (w : World) (en : Ending) (w' : World) : Prop :=
  (∃ e', en = .returned (.tuple #[.slice none 0 0, .int .i64 4]) ∧ R e' [] ∧ To S w g K e' w') ∨
  (∃ B c ys e', en = .returned (.tuple #[.slice B ys.length c, .int .i64 0]) ∧ RI w' B (nats ys) ∧ ys ≠ [] ∧ R e' ys ∧ To S w g K e' w')
set_option maxHeartbeats 8000000 in
set_option maxRecDepth 100000 in
theorem fits_some (S : Nat → Prop) (g : Nat) (K : EK) (e : Eng) (xs : List Nat) (n cp np cq : Nat) (B P : Option Addr) (pr : Int) (w : World) (H : EngAt S w g K e) (hi : EngInv e) (hs : 0 < slots e.led) (hx : xs ≠ []) (hn : xs.length = n) (hn2 : n ≤ 12) (hall : ∀ x, x ∈ xs → x < e.N) (hr : RI w B (nats xs)) :
    Calls Tryz.prog 54 #[.pointer (some ⟨g, 0, none⟩), .slice B n cp, .int .i64 pr, .slice P np cq] w (FitsPost S g K (fun e' ys => e' = e ∧ ys = xs) w) := by
  have HE := Aside0.mk H
  have HI := Aside0.mk hi
  have HALL := Aside0.mk hall
  have HX := Aside0.mk (And.intro hx hn)
  have HR := Aside0.mk hr
  obtain ⟨A, ca, hva, c10, htds⟩ := H.tds
  obtain ⟨c15, hat, _⟩ := H.led
  have HTDS := Aside0.mk htds
  have hN := hi.N
  obtain ⟨N, hNN⟩ : ∃ N, e.N = N := ⟨_, rfl⟩
  obtain ⟨room, hroom⟩ : ∃ room, e.led.budget - e.led.used = room := ⟨_, rfl⟩
  have HQ := Aside0.mk (fun k => Calls.quiet_of ((Room_r hroom hi.led.pos hi.led.le hi.led.big (w.drewN k) hat).mono fun _ _ ⟨h1, h2⟩ => ⟨h1, h2.out⟩))
  have HM := Aside0.mk (show ∀ x, x ∈ xs → x < N ∧ e.mem x ≤ room from fun x hx => ⟨hNN ▸ hall x hx, by have := hi.fits (hall x hx); omega⟩)
  have hN12 := hi.N.2
  rw [hNN] at c10 htds hN hN12
  have HTD := Aside0.mk htds
  have hpos : 0 < n := by rw [← hn]; exact List.length_pos_iff.2 hx
  obtain ⟨sl, hsl⟩ : ∃ sl, slots e.led = sl := ⟨_, rfl⟩
  have HSL := Aside0.mk hsl
  rw [hsl] at hs
  clear H hi hall hx hn hr hva hat HTDS htds hNN hroom hsl
  go_enter Tryz.func54, Tryz.ntmps54
  go_wp2
  refine Qt.wp_region_quiet_tail 10 (by kernel_rfl) (by kernel_rfl) ?_
  simp only [List.take_succ_cons, List.take_zero, List.drop_succ_cons, List.drop_zero]
  repeat (go_big_quiet_step ((go_at_call 95; exact HQ.out _)))
  refine wpQuiet_nil ?_
  intro w9 hw9
  have HB9 := Aside0.mk (show Below w.heap.size w w9 from by obtain ⟨m, rfl⟩ := hw9; exact pw_below_drewN (Below.refl _ _) m)
  clear hw9
  go_wp2_with (first
    | (go_at_call 94; go_loud (refine (Fits_calls xs n cp N ca A B room e.mem e.cost HX.out.2 (by omega) (by omega) HM.out _ (ReadsOf.below HR.out HB9.out) (HTD.out.below HB9.out)).mono ?_); rintro en w2 ⟨A6, c6, rfl, hr6, hb6⟩; have HB2 := Aside0.mk (below_step HB9.out hb6); have HR2 := Aside0.mk hr6; have c15b := pw_cell_below HB2.out c15; have HLED := Aside0.mk ((HE.out.keep HB2.out).led.2.1); clear hb6 hr6)
    | (go_at_call 96; go_loud (refine (Slots_calls K.gl e.led HI.out.led.many _ HLED.out).mono ?_); rintro en w3 ⟨rfl, hb3⟩; rw [HSL.out]; have HB3 := Aside0.mk (below_step HB2.out hb3); have HR3 := Aside0.mk (ReadsOf.below HR2.out hb3); clear hb3))
  go_ret2
  refine .inr ⟨A6, c6, xs, e, by rw [HX.out.2]; rfl, HR3.out, HX.out.1, ⟨rfl, rfl⟩, To.of_below HE.out HB3.out⟩
end Go.Proofs.YtbpoapfkeinjnaaGreatDoor.Ld
namespace Go.Proofs.YtbpoapfkeinjnaaGreatDoor.Ld
open Go.RowKit Go.Proofs.YtbpoapfkeinjnaaGreatDoorW.PrintWords Go.Proofs.YtbpoapfkeinjnaaGreatDoorW.PrintLast Go.Proofs.YtbpoapfkeinjnaaGreatDoorW.PrintMore
set_option linter.unusedVariables false
set_option linter.unusedSimpArgs false
set_option linter.unnecessarySimpa false
attribute [local go_sem] max2_int min2_int max_two min_two
theorem info88 : (Tryz.prog.info? 88).map (fun i => (i.zero, i.size, i.bytes)) = some (some (.agg #[.int .i64 0, .int .i64 0, .int .i64 0]), 3, 24) := by kernel_rfl
def encR3 (x : Rq) : List Value := [.int .i64 x.root, .int .i64 x.weight, .int .i64 x.prio]
def ridF (e : Eng) (j : Nat) : Nat := (e.ad.l1.getD j 0).toNat
def actR (e : Eng) (n : Nat) : List Rq := (List.range n).map fun j => e.rq (ridF e j)
def actRoots (e : Eng) (n : Nat) : List Int := (List.range n).map fun j => (e.rq (ridF e j)).root
theorem actR_len (e : Eng) (n : Nat) : (actR e n).length = n := by simp [actR]
theorem actRoots_len (e : Eng) (n : Nat) : (actRoots e n).length = n := by simp [actRoots]
theorem actR_succ (e : Eng) (n : Nat) : flat encR3 (actR e (n + 1)) = flat encR3 (actR e n) ++ encR3 (e.rq (ridF e n)) := by
  unfold actR
  rw [map_range_succ, flat_append]
  simp [flat]
theorem actRoots_succ (e : Eng) (n : Nat) : ints (actRoots e (n + 1)) = ints (actRoots e n) ++ [.int .i64 (e.rq (ridF e n)).root] := by
  unfold actRoots ints
  rw [map_range_succ, encs_append]
  rfl
theorem EngInv.rid {e : Eng} (h : EngInv e) {j : Nat} (hj : j < e.ad.l1.length) : e.ad.l1.getD j 0 = (ridF e j : Int) ∧ ridF e j < e.nr := by
  have hm : e.ad.l1.getD j 0 ∈ e.ad.l1 ++ e.ad.l2 := by
    rw [List.getD_eq_getElem?_getD, List.getElem?_eq_getElem hj]
    exact List.mem_append_left _ (List.getElem_mem hj)
  obtain ⟨r, hr, hlt⟩ := h.ad.lt _ hm
  unfold ridF
  rw [hr, Int.toNat_natCast]
  exact ⟨rfl, hlt⟩
theorem wp_more {P : Program} {ops : Array Oper} {rest : List Oper} {o : Oper} {a : Act} {Q : Exit → Act → World → Prop} {w w1 : World} (hgd : o.guard = none) (s x : Operand) (t e : TypeId) (z : Value) (sz bytes : Nat)
    (ho : o.op = .call { callee := .builtin .append, args := #[s, x], argTypes := #[t, t] }) (ht : P.underlying t = some (.slice e)) (hinfo : (P.info? e).map (fun i => (i.zero, i.size, i.bytes)) = some (some z, sz, bytes)) (hz : z.cells.size = sz) (hs0 : 0 < sz)
    (v : Value) (n b : Nat) (xs ys : List Value) (hs : a.eval s = v) (hx : a.eval x = .slice (some ⟨b, 0, none⟩) 1 1) (hr : NewR w e sz v n xs w1) (hl : ys.length = sz) (hb : w1.heap[b]? = some (.cells ys.toArray e (0, 0))) (h1 : ∀ u ∈ ys, u.oneCell' = true) (h63 : (n + 1) * bytes ≤ 140737488355328) (hb0 : 0 < bytes)
    (h : ∀ v6 w6, Aside0 (NewR w e sz v6 (n + 1) (xs ++ ys) w6 ∧ w1.grownBy w6 v.ownBlock) → wpList P ops Q rest (a.put o.dst v6) w6) : wpList P ops Q (o :: rest) a w1 := by
  obtain ⟨i0, hi, hz0, hz1, hz2⟩ := info_parts hinfo
  have hlen : n + 1 ≤ 140737488355328 := Nat.le_trans (Nat.le_mul_of_pos_right _ hb0) h63
  refine wpList_append_own_at _ hgd s x t ho 0 e i0 z sz bytes ht hi hz0 hz1 hz2 hz hs0 v n xs hs hr.1.own ⟨b, 0, none⟩ 1 1 ys hx (by rw [hl, Nat.one_mul]) (fun j u hj => ?_) h1 (by simp only [maxLen]; omega) h63 (Nat.zero_le _) ?_
  · rw [show (⟨b, 0, none⟩ : Addr).add j = ⟨b, j, none⟩ from by unfold Addr.add; split <;> simp_all]
    refine (blk_cell hb j).trans ?_
    rw [List.getElem?_toArray]
    exact hj
  · intro v6 w6 ho6 hg6 _ hat6
    exact h v6 w6 ⟨newr_more hr ho6 hg6 (by rcases hat6 with h | h; exact .inl h; exact .inr ⟨_, h, Nat.le_refl _⟩), hg6⟩
theorem rowI {T : Nat → Prop} {w : World} {v : Value} {xs : List Int} (h : RowAt T w 3 1 v xs.length (ints xs)) : ∃ A c, v = .slice A xs.length c ∧ RI w A xs ∧ xs.length ≤ c ∧ c ≤ 9223372036854775807 ∧ (∀ a, A = some a → a = ⟨a.block, 0, none⟩ ∧ T a.block) ∧ (0 < xs.length → ∃ a, A = some a) := by
  obtain ⟨A, c, hv, hr, _⟩ := RowAt.ri h
  subst hv
  refine ⟨A, c, rfl, hr, own_cap h.own, ?_, fun a ha => ?_, fun hp => ?_⟩
  · rcases h.own.2 with ⟨h1, _⟩ | ⟨g, cap, cur, h1, _, _, _, h2, _⟩
    · injection h1 with _ _ h3; omega
    · injection h1 with _ _ h3; subst h3; exact h2
  · subst ha
    refine ⟨?_, h.fp _ rfl⟩
    rcases h.own.2 with ⟨h1, _⟩ | ⟨g, cap, cur, h1, _⟩
    · injection h1 with h1; cases h1
    · injection h1 with h1; injection h1 with h1; subst h1; rfl
  · obtain ⟨ad, e, _⟩ := RI.at_ hr 0 hp
    exact ⟨ad, e⟩
def actRt (e : Eng) (j : Nat) : Nat := rootN e (ridF e j)
def actPr (e : Eng) (j : Nat) : Int := (e.rq (ridF e j)).prio
def actWt (e : Eng) (j : Nat) : Int := (e.rq (ridF e j)).weight
theorem actR_getD (e : Eng) (n j : Nat) (d : Rq) (hj : j < n) : (actR e n).getD j d = e.rq (ridF e j) := by
  unfold actR
  rw [List.getD_eq_getElem?_getD, List.getElem?_map, List.getElem?_range hj]
  rfl
theorem actRoots_getD (e : Eng) (n j : Nat) (hj : j < n) : (actRoots e n).getD j 0 = (e.rq (ridF e j)).root := by
  unfold actRoots
  rw [List.getD_eq_getElem?_getD, List.getElem?_map, List.getElem?_range hj]
  rfl
theorem rqs_of {e : Eng} (hi : EngInv e) {T : Nat → Prop} {w : World} {n c : Nat} {A : Option Addr} (hn : e.ad.l1.length = n) (h : RowAt T w 88 3 (.slice A n c) n (flat encR3 (actR e n))) : Rqs w A n (actRt e) (actWt e) (actPr e) :=
  ⟨fun j hj => by
    obtain ⟨ad, h1, h2, h3⟩ := h.item (enc := encR3) (sz := 3) (fun _ => rfl) (by decide) ⟨0, 0, 0, 0⟩ j (by rw [actR_len]; exact hj)
    rw [actR_getD e n j _ hj] at h2 h3
    obtain ⟨_, hr⟩ := hi.rid (j := j) (by omega)
    have hroot := (hi.root hr).1
    refine ⟨ad, h1, h2.trans ?_, (h3 1 (by decide) (by decide)).trans rfl, (h3 2 (by decide) (by decide)).trans rfl⟩
    show some (Value.int .i64 (e.rq (ridF e j)).root) = _
    rw [hroot]; rfl⟩
end Go.Proofs.YtbpoapfkeinjnaaGreatDoor.Ld
namespace Go.Proofs.YtbpoapfkeinjnaaGreatDoor.Ld
open Go.RowKit Go.Proofs.YtbpoapfkeinjnaaGreatDoorW.PrintWords Go.Proofs.YtbpoapfkeinjnaaGreatDoorW.PrintLast Go.Proofs.YtbpoapfkeinjnaaGreatDoorW.PrintMore
set_option linter.unusedVariables false
set_option linter.unusedSimpArgs false
set_option linter.unnecessarySimpa false
theorem Moves.same {cs : List Int} {t t1 : Tur} (h : Moves cs t t1) (hi : TurInv t) (hn : t.l ≠ []) (hcs : ∀ i, i < t.l.length → 0 ≤ cs.getD i 0 ∧ cs.getD i 0 ≤ 1048576) :
    TurInv t1 ∧ t1.l.length = t.l.length ∧ t1.q = t.q ∧ ∀ i, i < t.l.length → (mbs t1.l i).weight = (mbs t.l i).weight ∧ (mbs t1.l i).id = (mbs t.l i).id := by
  induction h with
  | refl => exact ⟨hi, rfl, rfl, fun i _ => ⟨rfl, rfl⟩⟩
  | step h k ih =>
    rename_i ta tb
    obtain ⟨h1, h2, h3, h4⟩ := ih
    have hn1 : ta.l ≠ [] := fun e => hn (List.eq_nil_of_length_eq_zero (by rw [← h2, e]; rfl))
    have hc1 : ∀ i, i < ta.l.length → 0 ≤ cs.getD i 0 ∧ cs.getD i 0 ≤ 1048576 := fun i hl => hcs i (h2 ▸ hl)
    obtain ⟨c1, c2, _, c4⟩ := k.credit h1 hn1 hc1
    exact ⟨k.inv h1 hn1 hc1, c2.trans h2, c1.trans h3, fun i hil => ⟨(c4 i (by rw [h2]; exact hil)).1.trans (h4 i hil).1, (c4 i (by rw [h2]; exact hil)).2.1.trans (h4 i hil).2⟩⟩
theorem place_id {l : List Mb} {id : Int} {i : Nat} (h : placeI l id = (i : Int)) : i < l.length ∧ (mbs l i).id = id := by
  unfold placeI at h
  rcases fndN_cases (isId id) (mbs l) l.length with ⟨h1, _⟩ | ⟨j, h1, h2, h3, _⟩
  · omega
  · rw [h1] at h
    obtain rfl : j = i := by omega
    unfold isId at h3
    exact ⟨h2, by simpa using h3⟩
theorem taken_want {t t1 : Tur} {ws : List Wt} (hi : TurInv t) (hm : Moves (costsF t.l ws).1 t t1) (hc : CanTake (costsF t.l ws).1 t1) :
    ∃ k a : Nat, t1.at_ = (a : Int) ∧ a < t.l.length ∧ (mAt t1).id = (mbs t.l a).id ∧ wantAt ws (mAt t1).id = (k : Int) ∧ k < ws.length ∧ (ws.getD k wt0).id = (mAt t1).id ∧ ∃ x, x ∈ ws ∧ placeI t.l x.id = (a : Int) ∧ x.cost = cAt (costsF t.l ws).1 t1 := by
  have hok := costs_ok t.l ws
  have hlt : t1.at_.toNat < t.l.length := by
    rcases Nat.lt_or_ge t1.at_.toNat t.l.length with h | h
    · exact h
    · have h1 := hc.1
      unfold cAt rd at h1
      rw [List.getD_eq_getElem?_getD, List.getElem?_eq_none (by rw [hok.len]; exact h)] at h1
      simp at h1
  have hne : t.l ≠ [] := fun e => by rw [e] at hlt; simp at hlt
  obtain ⟨s1, s2, s3, s4⟩ := hm.same hi hne hok.bd
  have hat : t1.at_ = (t1.at_.toNat : Int) := by have := s1.a.1; omega
  obtain ⟨x, hx, hp, hco⟩ := hok.of t1.at_.toNat hlt hc.1
  have hid : (mAt t1).id = x.id := ((s4 _ hlt).2).trans (place_id hp).2
  unfold wantAt
  rcases fndN_cases (isId58 (mAt t1).id) (fun i => ws.getD i wt0) ws.length with ⟨_, h2⟩ | ⟨j, h1, h2, h3, _⟩
  · obtain ⟨i, hil, he⟩ := List.mem_iff_getElem.1 hx
    have := h2 i hil
    unfold isId58 at this
    rw [List.getD_eq_getElem?_getD, List.getElem?_eq_getElem hil] at this
    simp [he, hid] at this
  · refine ⟨j, t1.at_.toNat, hat, hlt, (s4 _ hlt).2, h1, h2, ?_, x, hx, hp, hco⟩
    unfold isId58 at h3
    simpa using h3
def StartR (e : Eng) (r : Int) (t : Nat) (rv : Value) (er : Int) (e' : Eng) : Prop :=
  (takeErr e.led (t : Int) (e.mem t) ≠ 0 ∧ rv = reply 0 0 0 0 0 ∧ er = takeErr e.led (t : Int) (e.mem t) ∧ e' = e) ∨
  (takeErr e.led (t : Int) (e.mem t) = 0 ∧ rv = reply r 0 (t : Int) (takeSlot e.led (t : Int) (e.mem t)) (startSt (e.life t)).epoch ∧ er = 0 ∧ ∃ q, SetRel e.tm q t (e.now + e.c.timeout) ∧ e' = startsSt e t q)
theorem StartsPost.rel {S : Nat → Prop} {g : Nat} {K : EK} {e : Eng} {r : Int} {t : Nat} {w : World} {en : Ending} {w' : World} (h : StartsPost S g K e r t w en w') : ∃ rv er e', StartR e r t rv er e' ∧ en = .returned (.tuple #[rv, .int .i64 er]) ∧ To S w g K e' w' := by
  rcases h with ⟨h1, h2, h3⟩ | ⟨h1, h2, q, h3, h4⟩
  · exact ⟨_, _, e, .inl ⟨h1, rfl, rfl, rfl⟩, h2, h3⟩
  · exact ⟨_, _, _, .inr ⟨h1, rfl, rfl, q, h3, rfl⟩, h2, h4⟩
theorem StartsPost.rel5 {S : Nat → Prop} {g : Nat} {K : EK} {e : Eng} {r : Int} {t : Nat} {w : World} {en : Ending} {w' : World} (h : StartsPost S g K e r t w en w') : ∃ a b c d f er e', Aside0 (StartR e r t (reply a b c d f) er e' ∧ To S w g K e' w') ∧ en = .returned (.tuple #[.agg #[.int .i64 a, .int .i64 b, .int .i64 c, .int .i64 d, .int .i64 f], .int .i64 er]) := by
  rcases h with ⟨h1, h2, h3⟩ | ⟨h1, h2, q, h3, h4⟩
  · exact ⟨_, _, _, _, _, _, e, ⟨.inl ⟨h1, rfl, rfl, rfl⟩, h3⟩, h2⟩
  · exact ⟨_, _, _, _, _, _, _, ⟨.inr ⟨h1, rfl, rfl, q, h3, rfl⟩, h4⟩, h2⟩
theorem cell_same {w w' : World} {a : Addr} (h : w'.heap[a.block]? = w.heap[a.block]?) : w'.cell? a = w.cell? a := by unfold World.cell?; rw [h]
theorem RI.same {w w' : World} {A : Option Addr} {xs : List Int} (h : RI w A xs) (hk : ∀ a, A = some a → 0 < xs.length → w'.heap[a.block]? = w.heap[a.block]?) : RI w' A xs := by
  refine ⟨h.1, h.2.1, fun hp => ?_⟩
  obtain ⟨ad, e, hc⟩ := h.2.2 hp
  refine ⟨ad, e, fun j hj => ?_⟩
  rw [← hc j hj]
  refine cell_same ?_
  rw [show (ad.add j).block = ad.block from by unfold Addr.add; split <;> rfl]
  exact hk ad e hp
noncomputable def dWs (e : Eng) (ys : List Nat) : List Wt := wantsL e.gr ys (actRt e) (fun i => e.ad.l1.getD i 0) e.cost e.ad.l1.length
noncomputable def dOwn (e : Eng) (ys : List Nat) : List Nat := ownL e.gr ys (actRt e) e.ad.l1.length
def tookT (t1 : Tur) (c : Int) : Tur := { t1 with l := t1.l.set t1.at_.toNat { mAt t1 with credit := (mAt t1).credit - c } }
theorem BestAt.lt {st pr : List Int} {n : Nat} {b : Int} {l : List Nat} (h : BestAt st pr n b l) (x : Nat) (hx : x ∈ l) : x < n := by
  rcases h with ⟨_, rfl, _⟩ | ⟨_, rfl, _⟩
  · cases hx
  · unfold bestF at hx; exact List.mem_range.1 (List.mem_filter.1 hx).1
theorem own_mem {G : Gr} {ys : List Nat} {rt : Nat → Nat} {n x : Nat} (h : x ∈ ownL G ys rt n) : x ∈ ys := by
  unfold ownL at h
  obtain ⟨i, _, hi⟩ := List.mem_filterMap.1 h
  unfold wantF at hi
  rcases wantI_cases G (rt i) ys with hq | ⟨j, hq, hj⟩
  · rw [hq] at hi; simp at hi
  · rw [hq, if_neg (by omega)] at hi
    injection hi with hi
    rw [← hi, Int.toNat_natCast]
    exact getD_mem ys j hj
theorem reply_end {S S1 : Nat → Prop} {w wA w6 w' : World} {g B : Nat} {K : EK} {e : Eng} (h : LocB S wA g K e S1 w6 B rep0) (hb : Below w.heap.size w wA) (hB : wA.heap.size = B) (a b c d f : Value)
    (hw : w' = ((((w6.setCell ⟨B, 0, none⟩ a).setCell ⟨B, 1, none⟩ b).setCell ⟨B, 2, none⟩ c).setCell ⟨B, 3, none⟩ d).setCell ⟨B, 4, none⟩ f) :
    (w'.cell? ⟨B, 0, none⟩ = some a ∧ w'.cell? ⟨B, 1, none⟩ = some b ∧ w'.cell? ⟨B, 2, none⟩ = some c ∧ w'.cell? ⟨B, 3, none⟩ = some d ∧ w'.cell? ⟨B, 4, none⟩ = some f) ∧ To S w g K e w' := by
  obtain ⟨h1, hc⟩ := reply_put h.b _ _ _ _ _ hw
  exact ⟨h1, To.after_below hb (h.write hc (by omega))⟩
def DispR (R : List Nat → Eng → List Nat → Prop) (e : Eng) (rv : Value) (er : Int) (e' : Eng) : Prop :=
  ∃ b l, BestAt (statesL e e.N) (prL e.gr (actRt e) (actPr e) e.ad.l1.length) e.N b l ∧
  ((l = [] ∧ rv = reply 0 0 0 0 0 ∧ er = 6 ∧ e' = e) ∨
   (l ≠ [] ∧ R l e' [] ∧ rv = reply 0 0 0 0 0 ∧ er = 4) ∨
   (l ≠ [] ∧ ∃ e1 ys, R l e1 ys ∧ ys ≠ [] ∧
     (((costsF e.tu.l (dWs e ys)).2 = false ∧ rv = reply 0 0 0 0 0 ∧ er = 6 ∧ e' = e1) ∨
      ((costsF e.tu.l (dWs e ys)).2 = true ∧ ∃ t1, Moves (costsF e.tu.l (dWs e ys)).1 e.tu t1 ∧ CanTake (costsF e.tu.l (dWs e ys)).1 t1 ∧
        ∃ k : Nat, wantAt (dWs e ys) (mAt t1).id = (k : Int) ∧ k < (dOwn e ys).length ∧
          StartR { e1 with tu := tookT t1 (cAt (costsF e.tu.l (dWs e ys)).1 t1) } (mAt t1).id ((dOwn e ys).getD k 0) rv er e'))))
end Go.Proofs.YtbpoapfkeinjnaaGreatDoor.Ld
