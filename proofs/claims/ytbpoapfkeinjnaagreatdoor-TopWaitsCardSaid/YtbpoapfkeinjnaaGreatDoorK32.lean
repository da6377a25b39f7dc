/- The engine of the yard and what it leans on, part 32. -/
import Derived.Test.YtbpoapfkeinjnaaGreatDoorK31
namespace Go.Proofs.YtbpoapfkeinjnaaGreatDoor.Ld
open Go.RowKit Go.Proofs.YtbpoapfkeinjnaaGreatDoorW.PrintWords Go.Proofs.YtbpoapfkeinjnaaGreatDoorW.PrintLast Go.Proofs.YtbpoapfkeinjnaaGreatDoorW.PrintMore
set_option linter.unusedVariables false
set_option linter.unusedSimpArgs false
def negs : List Int → Nat
  | [] => 0
  | x :: l => (if x < 0 then 1 else 0) + negs l
theorem negs_set : ∀ (l : List Int) (i : Nat) (v : Int), i < l.length → l.getD i 0 < 0 → 0 ≤ v → negs (l.set i v) + 1 = negs l
  | [], i, v, h, _, _ => absurd h (Nat.not_lt_zero _)
  | x :: l, 0, v, _, h, hv => by
    have h' : x < 0 := h
    show (if v < 0 then 1 else 0) + negs l + 1 = (if x < 0 then 1 else 0) + negs l
    rw [if_neg (by omega), if_pos h']
    omega
  | x :: l, i + 1, v, hl, h, hv => by
    have h1 := negs_set l i v (by simpa using hl) h hv
    show (if x < 0 then 1 else 0) + negs (l.set i v) + 1 = (if x < 0 then 1 else 0) + negs l
    omega
theorem negs_rep (n : Nat) : negs (List.replicate n (-1)) = n := by
  induction n with
  | zero => rfl
  | succ n ih =>
    show (if (-1 : Int) < 0 then 1 else 0) + negs (List.replicate n (-1)) = n + 1
    rw [ih, if_pos (by omega)]
    omega
theorem getD_set1 (l : List Int) (i j : Nat) (v : Int) (hi : i < l.length) : (l.set i v).getD j 0 = if j = i then v else l.getD j 0 := by
  rw [List.getD_eq_getElem?_getD, List.getElem?_set, List.getD_eq_getElem?_getD]
  by_cases h : i = j
  · subst h; rw [if_pos rfl, if_pos hi, if_pos rfl]; rfl
  · rw [if_neg h, if_neg (fun e => h e.symm)]
structure Far (G : Gr) (t : Nat) (far : List Int) : Prop where
  len : far.length = G.N
  zero : far.getD t 0 = 0
  pos : ∀ a, a < G.N → 0 ≤ far.getD a 0 → a = t ∨ ∃ b : Nat, b < G.N ∧ (b : Int) ∈ G.L false a ∧ far.getD b 0 = far.getD a 0 - 1 ∧ 0 ≤ far.getD b 0
  bd : ∀ a, a < G.N → far.getD a 0 + (negs far : Int) + 1 ≤ G.N
  lo : ∀ a, a < G.N → -1 ≤ far.getD a 0
theorem Far.start {G : Gr} {t : Nat} (ht : t < G.N) : Far G t ((List.replicate G.N (-1)).set t 0) := by
  have hl : t < (List.replicate G.N (-1 : Int)).length := by simpa using ht
  have hg : ∀ a, a < G.N → ((List.replicate G.N (-1 : Int)).set t 0).getD a 0 = if a = t then 0 else -1 := fun a ha => by rw [getD_set1 _ _ _ _ hl, getD_rep _ _ _ ha]
  have hn := negs_set (List.replicate G.N (-1)) t 0 hl (by rw [getD_rep _ _ _ ht]; omega) (by omega)
  rw [negs_rep] at hn
  refine ⟨by simp, by rw [hg t ht, if_pos rfl], fun a ha h => ?_, fun a ha => ?_, fun a ha => by rw [hg a ha]; split <;> omega⟩
  · rw [hg a ha] at h
    by_cases e : a = t
    · exact .inl e
    · rw [if_neg e] at h; omega
  · rw [hg a ha]; split <;> omega
theorem Far.more {G : Gr} {t : Nat} {far : List Int} (h : Far G t far) {a y : Nat} (ha : a < G.N) (hy : y < G.N) (hn : far.getD a 0 < 0) (hp : 0 ≤ far.getD y 0) (he : (y : Int) ∈ G.L false a) :
    Far G t (far.set a (far.getD y 0 + 1)) ∧ negs (far.set a (far.getD y 0 + 1)) + 1 = negs far ∧ ∀ z, 0 ≤ far.getD z 0 → z < G.N → 0 ≤ (far.set a (far.getD y 0 + 1)).getD z 0 := by
  have hl : a < far.length := by rw [h.len]; exact ha
  have hg := fun j => getD_set1 far a j (far.getD y 0 + 1) hl
  have hs := negs_set far a (far.getD y 0 + 1) hl hn (by omega)
  have hya : y ≠ a := fun e => by rw [e] at hp; omega
  refine ⟨⟨by rw [List.length_set]; exact h.len, ?_, fun c hc hpc => ?_, fun c hc => ?_, fun c hc => by rw [hg]; have := h.lo c hc; split <;> omega⟩, hs, fun z hz _ => ?_⟩
  · rw [hg, if_neg (fun e => by rw [← e, h.zero] at hn; omega)]; exact h.zero
  · rw [hg] at hpc
    by_cases e : c = a
    · subst e
      exact .inr ⟨y, hy, he, by rw [hg, hg, if_neg hya, if_pos rfl]; omega, by rw [hg, if_neg hya]; exact hp⟩
    · rw [if_neg e] at hpc
      rcases h.pos c hc hpc with h1 | ⟨b, h1, h2, h3, h4⟩
      · exact .inl h1
      · have hba : b ≠ a := fun e => by rw [e] at h4; omega
        exact .inr ⟨b, h1, h2, by rw [hg, hg, if_neg hba, if_neg e]; exact h3, by rw [hg, if_neg hba]; exact h4⟩
  · rw [hg]
    by_cases e : c = a
    · rw [if_pos e]; have := h.bd y hy; omega
    · rw [if_neg e]; have := h.bd c hc; omega
  · rw [hg]; split <;> omega
theorem Far.one {G : Gr} {t : Nat} {far : List Int} (h : Far G t far) {a : Nat} (ha : a < G.N) (hp : 0 ≤ far.getD a 0) (hne : a ≠ t) : 1 ≤ far.getD a 0 := by
  rcases h.pos a ha hp with h1 | ⟨b, _, _, h3, h4⟩
  · exact absurd h1 hne
  · omega
theorem row_at {S : Nat → Prop} {w : World} {b n c : Nat} {xs : List Int} (h : RowAt S w 3 1 (.slice (some ⟨b, 0, none⟩) n c) n (ints xs)) (hl : xs.length = n) (i : Nat) (hi : i < n) : w.cell? ⟨b, i, none⟩ = some (.int .i64 (xs.getD i 0)) ∧ w.frozen? ⟨b, i, none⟩ = false := by
  have hx : (ints xs)[i]? = some (.int .i64 (xs.getD i 0)) := by
    unfold ints encs
    rw [List.getElem?_map, List.getElem?_eq_getElem (by omega), List.getD_eq_getElem?_getD, List.getElem?_eq_getElem (by omega)]; rfl
  obtain ⟨b', c', hv, h1, h2⟩ := row_cell h i hi _ hx
  injection hv with hv
  injection hv with hv
  injection hv with hv
  subst hv
  exact ⟨h1, h2⟩
def DistPost (G : Gr) (t : Nat) (w : World) (en : Ending) (w' : World) : Prop :=
  ∃ (b c : Nat) (far : List Int), en = .returned (.slice (some ⟨b, 0, none⟩) G.N c) ∧ Aside0 (Far G t far ∧ NewR w 3 1 (.slice (some ⟨b, 0, none⟩) G.N c) G.N (ints far) w')
set_option maxHeartbeats 8000000 in
set_option maxRecDepth 100000 in
theorem dist_calls (S : Nat → Prop) (g : Nat) (G : Gr) (t : Nat) (w : World) (H : GrAt S w g G) (hv : GrInv G) (ht : t < G.N) (hN : G.N ≤ 12) :
    Calls Tryz.prog 170 #[.pointer (some ⟨g, 0, none⟩), .int .i64 (t : Int)] w (DistPost G t w) := by
  have HH := Aside0.mk H
  have HV := Aside0.mk hv
  have hshort := fun b j (hj : j < G.N) => hv.short b j hj
  have HSH := Aside0.mk hshort
  obtain ⟨N, hNN⟩ : ∃ N, G.N = N := ⟨_, rfl⟩
  rw [hNN] at ht hN
  have HN := Aside0.mk hNN
  have HT := Aside0.mk ht
  clear H hv hshort hNN
  have q1 : (0 ≤ (t : Int)) = True := eq_true (by omega)
  have q2 : ((t : Int) < (N : Int)) = True := eq_true (by omega)
  go_enter Tryz.func170, Tryz.ntmps170
  go_upto_region 2 with (first
    | (go_at_call 92; go_loud (refine (N_calls S g G _ (HH.out.keep (Keep.of_below (below_alloc (Below.refl _ w) _)))).mono ?_); rintro e w2 ⟨rfl, hd⟩; rw [HN.out]; have HD := Aside0.mk hd; clear hd)
    | (go_at_call 91; go_loud (refine (Repeat_calls w.heap.size (-1) N (by have := HT.out; omega) (by omega) _ ?hc).mono ?_); (case hc => exact pw_cell_below HD.out.below ((blk_cell (heap_alloc_new w (.cells #[.int .i64 (-1)] 3)) 0).trans rfl)); rintro e w3 ⟨v5, rfl, hr⟩; have HR := Aside0.mk hr; clear hr))
  obtain ⟨bf, cf, rfl, hcell, hfz⟩ := row_cell HR.out.1 t (by rw [List.length_replicate]; have := HT.out; omega) (.int .i64 (-1)) (by unfold ints encs; rw [List.getElem?_map, List.getElem?_replicate, if_pos HT.out]; rfl)
  rw [List.length_replicate] at HR ⊢
  have hB3 : Below w.heap.size w w3 := below_step (below_step (below_alloc (Below.refl _ w) _) HD.out.below) HR.out.2
  have hbf : w.heap.size ≤ bf := Nat.le_trans (below_step (below_alloc (Below.refl _ w) (.cells #[.int .i64 (-1)] 3)) HD.out.below).size (HR.out.1.fp bf rfl)
  have HB3 := Aside0.mk hB3
  have HBF := Aside0.mk hbf
  have HRF := Aside0.mk (show RowAt (fun k => k = bf) w3 3 1 (.slice (some ⟨bf, 0, none⟩) N cf) N (ints (List.replicate N (-1))) from ⟨by have h := HR.out.1.own; rw [List.length_replicate] at h; exact h, fun k hk => (Option.some.inj hk).symm⟩)
  clear HR hB3 hbf
  go_upto_region 3 with (fail)
  obtain ⟨w4, hw4⟩ : ∃ w4, w4 = w3.setCell ⟨bf, t, none⟩ (.int .i64 0) := ⟨_, rfl⟩
  rw [← hw4]
  have HR4 := Aside0.mk (show RowAt (fun k => k = bf) w4 3 1 (.slice (some ⟨bf, 0, none⟩) N cf) N (ints ((List.replicate N (-1)).set t 0)) from hw4 ▸ HRF.out.int_put (t : Int) 0)
  have HB4 := Aside0.mk (show Below w.heap.size w w4 from hw4 ▸ HB3.out.setCell HBF.out _)
  clear hw4 hcell hfz HRF
  have HF4 := Aside0.mk (show Far G t ((List.replicate N (-1)).set t 0) from by have h := Far.start (G := G) (t := t) (by rw [HN.out]; exact HT.out); rw [HN.out] at h; exact h)
  obtain ⟨w5, hw5⟩ : ∃ w5, w5 = w4.alloc (.cells #[.int .i64 (t : Int)] 3) := ⟨_, rfl⟩
  have HQ5 := Aside0.mk (show QAt w.heap.size w5 w4.heap.size 0 1 1 [(t : Int)] from hw5 ▸ QAt.new w4 w.heap.size (t : Int) HB4.out.size)
  have hb5 : Below w4.heap.size w4 w5 := hw5 ▸ below_alloc (Below.refl _ w4) _
  have HB5 := Aside0.mk (below_step HB4.out hb5)
  have HR5 := Aside0.mk (HR4.out.keep (Keep.of_below hb5))
  have HNB := Aside0.mk (show bf ≠ w4.heap.size from fun e => by have := own_lt HR4.out.own bf rfl; omega)
  have HW5 := Aside0.mk hw5
  clear hw5 hb5
  go_upto_block 0 with (fail)
  rw [← HW5.out]
  go_wp2
  go_loopg [6] (N + 1) (fun kq v6 wr => ∃ b off n cap : Nat, v6 = .slice (some ⟨b, off, none⟩) n cap ∧ Aside0 (∃ (xs far : List Int), QAt w.heap.size wr b off n cap xs ∧ bf ≠ b ∧ RowAt (fun k => k = bf) wr 3 1 (.slice (some ⟨bf, 0, none⟩) N cf) N (ints far) ∧ Far G t far ∧
    (∀ z, z ∈ xs → ∃ y : Nat, z = (y : Int) ∧ y < N ∧ 0 ≤ far.getD y 0) ∧ n + negs far + 1 ≤ kq ∧ n + negs far ≤ N ∧ Below w.heap.size w wr))
  case atStart =>
    have hn := negs_set (List.replicate N (-1)) t 0 (by simpa using HT.out) (by rw [getD_rep _ _ _ HT.out]; omega) (by omega)
    rw [negs_rep] at hn
    exact ⟨_, _, _, _, rfl, ⟨_, _, HQ5.out, HNB.out, HR5.out, HF4.out, fun z hz => ⟨t, List.mem_singleton.1 hz, HT.out, by rw [HF4.out.zero]; omega⟩, by omega, by omega, HB5.out⟩⟩
  case round =>
    obtain ⟨b, off, n, cap, rfl, hA⟩ := hrel
    obtain ⟨xs, far, hq, hne, hrow, hfar, hids, hk, hk2, hbw⟩ := hA.out
    have HQ := Aside0.mk hq
    have HNE := Aside0.mk hne
    have HRW := Aside0.mk hrow
    have HFA := Aside0.mk hfar
    have HID := Aside0.mk hids
    have HK := Aside0.mk hk
    have HK2 := Aside0.mk hk2
    have HBW := Aside0.mk hbw
    have hle := hq.le
    clear hA hq hne hrow hfar hids hk hk2 hbw HQ5 HR5 HF4
    rcases n with _ | n
    · go_wp2
      go_ret
      exact ⟨bf, cf, far, by rw [HN.out]; rfl, ⟨HFA.out, by rw [HN.out]; exact ⟨⟨HRW.out.own, fun k hk => by have := HRW.out.fp k hk; rw [this]; exact HBF.out⟩, HBW.out⟩⟩⟩
    · have hx0 : ∃ (y : Nat) (rest : List Int), xs = (y : Int) :: rest := by
        have hl := HQ.out.len
        cases xs with
        | nil => simp at hl
        | cons x xs =>
          obtain ⟨y, hy, _⟩ := HID.out x List.mem_cons_self
          exact ⟨y, xs, by rw [hy]⟩
      obtain ⟨y, rest, rfl⟩ := hx0
      obtain ⟨hy, hpy⟩ : y < N ∧ 0 ≤ far.getD y 0 := by obtain ⟨y', h1, h2, h3⟩ := HID.out _ List.mem_cons_self; have hyy : y = y' := (by omega); subst hyy; exact ⟨h2, h3⟩
      have HY := Aside0.mk (And.intro hy hpy)
      have hc0 := HQ.out.cell 0 (by omega)
      have hc0 : wr.cell? ⟨b, off, none⟩ = some (.int .i64 (y : Int)) := hc0
      obtain ⟨ins, hins⟩ : ∃ ins, G.L true y = ins := ⟨_, rfl⟩
      obtain ⟨m, hm⟩ : ∃ m, ins.length = m := ⟨_, rfl⟩
      have hs2 := HSH.out true y (by rw [HN.out]; exact hy)
      rw [hins, hm, HN.out] at hs2
      have HINS := Aside0.mk hins
      have HM := Aside0.mk hm
      have hn13 : n + 1 ≤ 13 := by have := HK2.out; omega
      clear hins hm hpy
      go_upto_block 2 with (go_at_call 110; go_loud (refine (In_calls S g G y _ (HH.out.keep (Keep.of_below HBW.out)) (by rw [HN.out]; omega) (by rw [HN.out]; exact hy) (by rw [HINS.out, HM.out]; omega)).mono ?_); rintro en w2 ⟨A6, c6, rfl, h1, h2, h3⟩; rw [HINS.out] at h1 h2; rw [HINS.out, HM.out]; rw [HM.out] at h2; have HRI := Aside0.mk h1; have HFR := Aside0.mk h2; have HB2 := Aside0.mk h3; clear h1 h2 h3)
      clear hc0
      obtain ⟨wo, rfl⟩ : ∃ wo : World, wo = wr := ⟨_, rfl⟩
      obtain ⟨ko, rfl⟩ : ∃ ko : Nat, ko = gk := ⟨_, rfl⟩
      have hle2 := HB2.out.size
      have HFAR := Aside0.mk (show ∀ a, A6 = some a → 0 < m → a.block < w2.heap.size ∧ a.block ≠ b ∧ a.block ≠ bf from fun a ha h0 => by
        have h1 := HFR.out a ha h0
        have h2 := HQ.out.lt
        have h3 := own_lt HRW.out.own bf rfl
        exact ⟨h1.2, by omega, by omega⟩)
      have HQ2 := Aside0.mk (HQ.out.below HB2.out)
      have HRW2 := Aside0.mk (HRW.out.keep (Keep.of_below HB2.out))
      have HBW2 := Aside0.mk (below_step HBW.out HB2.out)
      clear hle2
      go_wp2
      go_loopg [6, 29] (m + 1) (fun kq v6 v29 wx => ∃ i b2 off2 n2 cap2 : Nat, v29 = .int .i64 (i : Int) ∧ v6 = .slice (some ⟨b2, off2, none⟩) n2 cap2 ∧ Aside0 (kq + i = m + 1 ∧ i ≤ m ∧ ∃ (rest2 far2 : List Int), QAt w.heap.size wx b2 off2 n2 cap2 ((y : Int) :: rest2) ∧ bf ≠ b2 ∧ RowAt (fun k => k = bf) wx 3 1 (.slice (some ⟨bf, 0, none⟩) N cf) N (ints far2) ∧ Far G t far2 ∧
        (∀ z, z ∈ (y : Int) :: rest2 → ∃ y : Nat, z = (y : Int) ∧ y < N ∧ 0 ≤ far2.getD y 0) ∧ n2 + negs far2 = n + 1 + negs far ∧ RI wx A6 ins ∧ (∀ a, A6 = some a → 0 < m → a.block < wx.heap.size ∧ a.block ≠ b2 ∧ a.block ≠ bf) ∧ Below w.heap.size w wx))
      case atStart => exact ⟨0, _, _, _, _, rfl, rfl, ⟨by omega, by omega, rest, far, HQ2.out, HNE.out, HRW2.out, HFA.out, HID.out, rfl, HRI.out, HFAR.out, HBW2.out⟩⟩
      case round =>
        clear HQ2 HRW2 HRI HFAR
        obtain ⟨i, b2, off2, n2, cap2, rfl, rfl, hA⟩ := hrel
        obtain ⟨hki, him, rest2, far2, hq, hne, hrow, hfar, hids, hsum, hri, hfr, hbw⟩ := hA.out
        have HKI := Aside0.mk hki
        have HQ3 := Aside0.mk hq
        have HNE3 := Aside0.mk hne
        have HRW3 := Aside0.mk hrow
        have HFA3 := Aside0.mk hfar
        have HID3 := Aside0.mk hids
        have HSUM := Aside0.mk hsum
        have HRI3 := Aside0.mk hri
        have HFR3 := Aside0.mk hfr
        have HBW3 := Aside0.mk hbw
        have hq3 := hq.len
        have hle3 := hq.le
        have hn3 : 1 ≤ n2 := by rw [← hq3]; simp
        obtain ⟨hy2, hpy⟩ : y < N ∧ 0 ≤ far2.getD y 0 := by obtain ⟨y', h1, h2, h3⟩ := hids _ List.mem_cons_self; have hyy : y = y' := (by omega); subst hyy; exact ⟨h2, h3⟩
        have HPY := Aside0.mk hpy
        have hcq := hq.cell 0 (by omega)
        have hcq : wr.cell? ⟨b2, off2, none⟩ = some (.int .i64 (y : Int)) := hcq
        clear hA hq hne hrow hfar hids hsum hri hfr hbw hki hq3 hpy
        by_cases hlt : i < m
        · obtain ⟨u, hu, hul⟩ : ∃ u : Nat, ins.getD i 0 = (u : Int) ∧ u < N := by
            have hmem : ins.getD i 0 ∈ ins := by
              rw [List.getD_eq_getElem?_getD, List.getElem?_eq_getElem (by rw [HM.out]; exact hlt)]
              exact List.getElem_mem _
            obtain ⟨u, h1, h2⟩ := HV.out.mem true y (by rw [HN.out]; exact hy2) _ (by rw [HINS.out]; exact hmem)
            exact ⟨u, h1, by rw [HN.out] at h2; exact h2⟩
          have HED := Aside0.mk (show (y : Int) ∈ G.L false u from by
            have hmem : ins.getD i 0 ∈ ins := by
              rw [List.getD_eq_getElem?_getD, List.getElem?_eq_getElem (by rw [HM.out]; exact hlt)]
              exact List.getElem_mem _
            rw [hu, ← HINS.out] at hmem
            exact (HV.out.back u (by rw [HN.out]; exact hul) y (by rw [HN.out]; exact hy2)).1 hmem)
          obtain ⟨ad, rfl, hcell⟩ := RI.at_ HRI3.out i (by rw [HM.out]; exact hlt)
          rw [hu] at hcell
          have hlen2 : far2.length = N := by rw [HFA3.out.len, HN.out]
          have cy := (row_at HRW3.out hlen2 y hy2).1
          have cu := (row_at HRW3.out hlen2 u hul).1
          have fu := (row_at HRW3.out hlen2 u hul).2
          obtain ⟨fy, hfy⟩ : ∃ fy, far2.getD y 0 = fy := ⟨_, rfl⟩
          obtain ⟨fv, hfv⟩ : ∃ fv, far2.getD u 0 = fv := ⟨_, rfl⟩
          have hbdy := HFA3.out.bd y (by rw [HN.out]; exact hy2)
          rw [hfy, HN.out] at hbdy
          have hpy2 : 0 ≤ fy := by rw [← hfy]; exact HPY.out
          have hfy12 : 0 ≤ fy ∧ fy ≤ 12 := by omega
          rw [hfy] at cy
          rw [hfv] at cu
          have HFY := Aside0.mk (And.intro hfy hfv)
          have q3 : (0 ≤ (u : Int)) = True := eq_true (by omega)
          have q4 : ((u : Int) < (N : Int)) = True := eq_true (by omega)
          have q5 : (0 ≤ (i : Int)) = True := eq_true (by omega)
          have q6 : ((i : Int) < (m : Int)) = True := eq_true (by omega)
          have q7 : (0 ≤ (y : Int)) = True := eq_true (by omega)
          have q8 : ((y : Int) < (N : Int)) = True := eq_true (by omega)
          clear hfy hfv hbdy hpy2 hu hlen2
          by_cases hneg : fv < 0
          · have d1 : (fv < 0) = True := eq_true hneg
            have hmore := HFA3.out.more (a := u) (y := y) (by rw [HN.out]; exact hul) (by rw [HN.out]; exact hy2) (by rw [HFY.out.2]; exact hneg) HPY.out HED.out
            rw [HFY.out.1] at hmore
            have HMORE := Aside0.mk hmore
            clear hmore
            go_upto_region 11 with (fail)
            obtain ⟨wS, hwS⟩ : ∃ wS, wS = wr.setCell ⟨bf, u, none⟩ (.int .i64 (fy + 1)) := ⟨_, rfl⟩
            rw [← hwS]
            have hcS : Chg (fun k => k = bf) wr wS := hwS ▸ ((Chg.refl (fun k => k = bf) wr).set rfl _ _)
            have HRWS := Aside0.mk (show RowAt (fun k => k = bf) wS 3 1 (.slice (some ⟨bf, 0, none⟩) N cf) N (ints (far2.set u (fy + 1))) from hwS ▸ HRW3.out.int_put (u : Int) (fy + 1))
            have HQS := Aside0.mk (HQ3.out.same (hcS.block b2 HQ3.out.lt (fun e => HNE3.out e.symm)))
            have HBS := Aside0.mk (show Below w.heap.size w wS from hwS ▸ HBW3.out.setCell HBF.out _)
            have HCS := Aside0.mk hcS
            have HSZ := Aside0.mk (show wr.heap.size ≤ wS.heap.size from hcS.size)
            clear hwS hcS cy cu fu hcq hcell
            go_upto_region 12 with (at_builtin; go_loud (refine wp_qpush (base := w.heap.size) (wb := wS) rfl (.tmp 48) (.tmp 50) 22 rfl Tryz.underlying22 info3 b2 off2 n2 cap2 ((y : Int) :: rest2) (u : Int) rfl rfl HQS.out ?a1 ?a2 ?_); (case a1 => exact HBS.out.size); (case a2 => have := HSUM.out; have := HK2.out; omega); (intro b6 off6 cap6 w6 hq6 hc6 hb6; have HQ6 := Aside0.mk hq6; have HC6 := Aside0.mk hc6; have HB6 := Aside0.mk hb6; clear hq6 hc6 hb6))
            go_wp2
            go_roundg (gk - 1)
            case measure => have := HKI.out; omega
            case rel =>
              have hbfl := own_lt HRWS.out.own bf rfl
              refine ⟨i + 1, b6, off6, n2 + 1, cap6, by rw [show ((i : Int) + 1) = ((i + 1 : Nat) : Int) by omega], rfl, ⟨by have := HKI.out; omega, by omega, rest2 ++ [(u : Int)], far2.set u (fy + 1), HQ6.out, ?_, ?_, HMORE.out.1, ?_, ?_, ?_, ?_, ?_⟩⟩
              · rcases HB6.out with h | h
                · rw [h]; exact HNE3.out
                · omega
              · exact HRWS.out.keep (fun k hk hkb => HC6.out.block k hk (fun e => HNE3.out (hkb.symm.trans e)))
              · intro z hz
                rcases List.mem_append.1 (show z ∈ ((y : Int) :: rest2) ++ [(u : Int)] from hz) with hz | hz
                · obtain ⟨y', h1, h2, h3⟩ := HID3.out z hz
                  exact ⟨y', h1, h2, HMORE.out.2.2 y' h3 (by rw [HN.out]; exact h2)⟩
                · refine ⟨u, List.mem_singleton.1 hz, hul, ?_⟩
                  rw [getD_set1 _ _ _ _ (by rw [HFA3.out.len, HN.out]; exact hul), if_pos rfl]
                  omega
              · have := HMORE.out.2.1; have := HSUM.out; omega
              · refine RI.same HRI3.out fun a ha h0 => ?_
                have hf := HFR3.out a ha (by rw [← HM.out]; exact h0)
                exact (HC6.out.block _ (by have := HSZ.out; omega) hf.2.1).trans (HCS.out.block _ hf.1 hf.2.2)
              · intro a ha h0
                have hf := HFR3.out a ha h0
                refine ⟨by have := HSZ.out; have := HC6.out.size; omega, ?_, hf.2.2⟩
                rcases HB6.out with h | h
                · rw [h]; exact hf.2.1
                · have := HSZ.out; omega
              · exact Chg.to_below HBS.out HC6.out (fun k hk => by rw [hk]; exact HQS.out.lo)
          · have d1 : (fv < 0) = False := eq_false hneg
            go_wp2
            go_roundg (gk - 1)
            case measure => have := HKI.out; omega
            case rel => exact ⟨i + 1, b2, off2, n2, cap2, by rw [show ((i : Int) + 1) = ((i + 1 : Nat) : Int) by omega], rfl, ⟨by have := HKI.out; omega, by omega, rest2, far2, HQ3.out, HNE3.out, HRW3.out, HFA3.out, HID3.out, HSUM.out, HRI3.out, HFR3.out, HBW3.out⟩⟩
        · have p2 : ((i : Int) < (m : Int)) = False := eq_false (by omega)
          obtain ⟨n3, rfl⟩ : ∃ n3, n2 = n3 + 1 := ⟨n2 - 1, by omega⟩
          obtain ⟨cap3, rfl⟩ : ∃ c3, cap2 = c3 + 1 := ⟨cap2 - 1, by omega⟩
          by_cases hc3 : cap3 = 0
          · subst hc3
            obtain rfl : n3 = 0 := by omega
            go_wp2
            go_roundg (ko - 1)
            case measure => have := HK.out; omega
            case rel =>
              have hl : rest2 = [] := List.eq_nil_of_length_eq_zero (by have := HQ3.out.len; simpa using this)
              subst hl
              refine ⟨b2, off2, 0, 0, rfl, ⟨[], far2, HQ3.out.none (cap := 0) (by omega), HNE3.out, HRW3.out, HFA3.out, (fun x hx => by cases hx), ?_, ?_, HBW3.out⟩⟩
              · have := HK.out; have := HSUM.out; omega
              · have := HK2.out; have := HSUM.out; omega
          · go_wp2
            go_roundg (ko - 1)
            case measure => have := HK.out; omega
            case rel =>
              refine ⟨b2, off2 + 1, n3, cap3, rfl, ⟨rest2, far2, HQ3.out.tail, HNE3.out, HRW3.out, HFA3.out, fun x hx => HID3.out x (List.mem_cons_of_mem _ hx), ?_, ?_, HBW3.out⟩⟩
              · have := HK.out; have := HSUM.out; omega
              · have := HK2.out; have := HSUM.out; omega
end Go.Proofs.YtbpoapfkeinjnaaGreatDoor.Ld
namespace Go.Proofs.YtbpoapfkeinjnaaGreatDoor.Ld
open Go.RowKit Go.Proofs.YtbpoapfkeinjnaaGreatDoorW.PrintWords Go.Proofs.YtbpoapfkeinjnaaGreatDoorW.PrintLast Go.Proofs.YtbpoapfkeinjnaaGreatDoorW.PrintMore
set_option linter.unusedVariables false
set_option linter.unusedSimpArgs false
set_option maxHeartbeats 8000000 in
set_option maxRecDepth 100000 in
theorem there169 (S : Nat → Prop) (g : Nat) (G : Gr) (x : Nat) (w : World) (H : GrAt S w g G) (hx : x < G.N) (hN : G.N ≤ 12) :
    Calls Tryz.prog 169 #[.pointer (some ⟨g, 0, none⟩), .int .i64 (x : Int)] w fun e w' => e = .returned (.bool true) ∧ Drawn0 w w' := by
  have HH := Aside0.mk H
  have q1 : (0 ≤ (x : Int)) = True := eq_true (by omega)
  have q2 : ((x : Int) < (G.N : Int)) = True := eq_true (by omega)
  clear H
  go_enter Tryz.func169, Tryz.ntmps169
  go_wp2_with (go_at_call 92; go_loud (refine (N_calls S g G _ HH.out).mono ?_); rintro e w2 ⟨rfl, hd⟩; have HD := Aside0.mk hd; clear hd)
  go_ret
  exact ⟨rfl, HD.out⟩
structure PEnv (w : World) (b7 b9 bf cf N : Nat) (far : List Int) (at_ : Nat) : Prop where
  c7 : w.cell? ⟨b7, 0, none⟩ = some (.slice (some ⟨bf, 0, none⟩) N cf)
  c9 : w.cell? ⟨b9, 0, none⟩ = some (.int .i64 (at_ : Int))
  far : ∀ i, i < N → w.cell? ⟨bf, i, none⟩ = some (.int .i64 (far.getD i 0))
theorem PEnv.below {w w' : World} {b7 b9 bf cf N : Nat} {far : List Int} {at_ : Nat} (h : PEnv w b7 b9 bf cf N far at_) (hb : Below w.heap.size w w') : PEnv w' b7 b9 bf cf N far at_ := ⟨pw_cell_below hb h.c7, pw_cell_below hb h.c9, fun i hi => pw_cell_below hb (h.far i hi)⟩
def isNext (far : List Int) (at_ : Nat) (x : Nat) : Bool := decide (far.getD x 0 = far.getD at_ 0 - 1)
set_option maxHeartbeats 8000000 in
set_option maxRecDepth 100000 in
theorem path1_calls (w : World) (b7 b9 bf cf N : Nat) (far : List Int) (at_ x : Nat) (h : PEnv w b7 b9 bf cf N far at_) (hx : x < N) (ha : at_ < N) (hN : N ≤ 12) (hbd : ∀ i, i < N → -1000 ≤ far.getD i 0 ∧ far.getD i 0 ≤ 1000) :
    Calls Tryz.prog 171 #[.int .i64 (x : Int), .pointer (some ⟨b7, 0, none⟩), .pointer (some ⟨b9, 0, none⟩)] w fun e w' => e = .returned (.bool (isNext far at_ x)) ∧ Drawn0 w w' := by
  have c7 := h.c7
  have c9 := h.c9
  have cx := h.far x hx
  have ca := h.far at_ ha
  have bx := hbd x hx
  have ba := hbd at_ ha
  obtain ⟨fx, hfx⟩ : ∃ fx, far.getD x 0 = fx := ⟨_, rfl⟩
  obtain ⟨fa, hfa⟩ : ∃ fa, far.getD at_ 0 = fa := ⟨_, rfl⟩
  have hE : isNext far at_ x = decide (fx = fa - 1) := by unfold isNext; rw [hfx, hfa]
  rw [hfx] at cx bx
  rw [hfa] at ca ba
  rw [hE]
  have q1 : (0 ≤ (x : Int)) = True := eq_true (by omega)
  have q2 : ((x : Int) < (N : Int)) = True := eq_true (by omega)
  have q3 : (0 ≤ (at_ : Int)) = True := eq_true (by omega)
  have q4 : ((at_ : Int) < (N : Int)) = True := eq_true (by omega)
  clear h hbd hfx hfa hE
  go_enter Tryz.func171, Tryz.ntmps171
  go_wp2
  go_quiet (fail)
  go_wp2
  go_ret
  refine ⟨?_, by repeat (first | exact Drawn0.refl _ | apply Drawn0.step)⟩
  congr 1
set_option maxHeartbeats 8000000 in
set_option maxRecDepth 100000 in
theorem pidx_calls (xs : List Int) (k cp : Nat) (B : Option Addr) (w : World) (b7 b9 bf cf N : Nat) (far : List Int) (at_ : Nat) (hB : RI w B xs) (hk : xs.length = k) (hk2 : k ≤ 100) (hall : ∀ z, z ∈ xs → ∃ y : Nat, z = (y : Int) ∧ y < N)
    (h : PEnv w b7 b9 bf cf N far at_) (ha : at_ < N) (hN : N ≤ 12) (hbd : ∀ i, i < N → -1000 ≤ far.getD i 0 ∧ far.getD i 0 ≤ 1000) (hex : ∃ y : Nat, (y : Int) ∈ xs ∧ isNext far at_ y = true) :
    Calls Tryz.prog 100 #[.slice B k cp, .func (.func 171) #[] #[.pointer (some ⟨b7, 0, none⟩), .pointer (some ⟨b9, 0, none⟩)]] w fun e w' => (∃ j y : Nat, e = .returned (.int .i64 (j : Int)) ∧ Aside0 (j < k ∧ xs.getD j 0 = (y : Int) ∧ y < N ∧ isNext far at_ y = true)) ∧ Below w.heap.size w w' := by
  have H := Aside0.mk h
  have HBR := Aside0.mk hB
  have HK := Aside0.mk hk
  have HALL := Aside0.mk hall
  have HBD := Aside0.mk hbd
  have HEX := Aside0.mk hex
  clear h hB hk hall hbd hex
  go_enter Tryz.func100, Tryz.ntmps100
  go_wp2
  go_loopg [8] (k + 1) (fun kq v8 wr => ∃ j : Nat, v8 = .int .i64 (j : Int) ∧ Aside0 (kq + j = k + 1 ∧ j ≤ k ∧ (∀ m, m < j → ∀ y : Nat, xs.getD m 0 = (y : Int) → isNext far at_ y = false) ∧ Below w.heap.size w wr))
  case atStart => exact ⟨0, rfl, ⟨by omega, by omega, fun m hm => absurd hm (Nat.not_lt_zero _), Below.refl _ _⟩⟩
  case round =>
    obtain ⟨j, rfl, hA⟩ := hrel
    obtain ⟨hkq, hj, hno, hb⟩ := hA.out
    have HB := Aside0.mk hb
    have HNO := Aside0.mk hno
    have HKQ := Aside0.mk hkq
    clear hA hb hno hkq
    by_cases hlt : j < k
    · obtain ⟨ad, rfl, hcell⟩ := RI.at_ (ReadsOf.below HBR.out HB.out) j (by rw [HK.out]; exact hlt)
      obtain ⟨x, hx, hxN⟩ : ∃ x : Nat, xs.getD j 0 = (x : Int) ∧ x < N := HALL.out _ (by
        rw [List.getD_eq_getElem?_getD, List.getElem?_eq_getElem (by rw [HK.out]; exact hlt)]
        exact List.getElem_mem _)
      rw [hx] at hcell
      have HX := Aside0.mk hx
      obtain ⟨rb, hrb⟩ : ∃ rb, isNext far at_ x = rb := ⟨_, rfl⟩
      have HRB := Aside0.mk hrb
      have p1 : (0 ≤ (j : Int)) = True := eq_true (by omega)
      have p2 : ((j : Int) < (k : Int)) = True := eq_true (by omega)
      clear hx hrb
      cases rb
      · go_wp2_with (go_at_call 171; go_loud (refine (path1_calls _ b7 b9 bf cf N far at_ x (H.out.below HB.out) hxN ha hN HBD.out).mono ?_); rintro e w2 ⟨rfl, hd2⟩; rw [HRB.out]; have HB2 := Aside0.mk (below_step HB.out hd2.below); clear hd2)
        go_roundg (gk - 1)
        case measure => have := HKQ.out; omega
        case rel =>
          refine ⟨j + 1, by rw [show ((j : Int) + 1) = ((j + 1 : Nat) : Int) by omega], ⟨by have := HKQ.out; omega, by omega, fun m hm y hy => ?_, HB2.out⟩⟩
          rcases Nat.lt_succ_iff_lt_or_eq.1 hm with h | rfl
          · exact HNO.out m h y hy
          · rw [HX.out] at hy
            have : x = y := by omega
            rw [← this]; exact HRB.out
      · go_wp2_with (go_at_call 171; go_loud (refine (path1_calls _ b7 b9 bf cf N far at_ x (H.out.below HB.out) hxN ha hN HBD.out).mono ?_); rintro e w2 ⟨rfl, hd2⟩; rw [HRB.out]; have HB2 := Aside0.mk (below_step HB.out hd2.below); clear hd2)
        go_ret
        exact ⟨⟨j, x, rfl, ⟨hlt, HX.out, hxN, HRB.out⟩⟩, HB2.out⟩
    · have hex := HEX.out
      obtain ⟨y, hy, hn⟩ := hex
      obtain ⟨i, hi, he⟩ := List.mem_iff_getElem.1 hy
      have := HNO.out i (by have := HK.out; omega) y (by rw [List.getD_eq_getElem?_getD, List.getElem?_eq_getElem hi]; exact he)
      rw [this] at hn
      cases hn
end Go.Proofs.YtbpoapfkeinjnaaGreatDoor.Ld
