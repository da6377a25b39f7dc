/- The engine of the yard and what it leans on, part 27. -/
import Derived.Test.YtbpoapfkeinjnaaGreatDoorK26
namespace Go.Proofs.YtbpoapfkeinjnaaGreatDoor.Ld
open Go.RowKit Go.Proofs.YtbpoapfkeinjnaaGreatDoorW.PrintWords Go.Proofs.YtbpoapfkeinjnaaGreatDoorW.PrintLast Go.Proofs.YtbpoapfkeinjnaaGreatDoorW.PrintMore
set_option linter.unusedVariables false
set_option linter.unusedSimpArgs false
set_option linter.unnecessarySimpa false
theorem mrange_getD {α : Type} (f : Nat → α) (d : α) (n i : Nat) (h : i < n) : ((List.range n).map f).getD i d = f i := by
  rw [List.getD_eq_getElem?_getD, List.getElem?_map, List.getElem?_range h]; rfl
theorem range_get (n i : Nat) (h : i < n) : (List.range n).getD i 0 = i := by
  rw [List.getD_eq_getElem?_getD, List.getElem?_range h]; rfl
theorem rchB_nil {N x : Nat} (hN : N ≤ 64) (hx : x < N) (y : Nat) : rchB (grNew N) x y = decide (y = x) := by
  have hT : ∀ j k, ((grNew N).T j).testBit k = false := fun j k => Nat.zero_testBit k
  have hbit : ∀ k, (2 ^ x).testBit k = decide (x = k) := fun k => Nat.testBit_two_pow
  have h : Reached (grNew N) x (2 ^ x) := ⟨Nat.pow_lt_pow_right (by decide) (by omega), by rw [hbit]; simp, fun j hj => by
    rw [hbit] at hj
    have : x = j := by simpa using hj
    show j < N
    omega, fun j _ k hk => (by rw [hT] at hk; cases hk), fun P hp _ j hj => by
    rw [hbit] at hj
    have : x = j := by simpa using hj
    exact this ▸ hp⟩
  rw [← rchB_of h y, hbit]
  by_cases h1 : x = y
  · rw [decide_eq_true h1, decide_eq_true h1.symm]
  · rw [decide_eq_false h1, decide_eq_false (fun e => h1 e.symm)]
theorem prF_nil {N n : Nat} {P : Int} (hP : 0 ≤ P) (hN : N ≤ 64) (hn : n ≤ N) (rt : Nat → Nat) (pr : Nat → Int) (hrt : ∀ i, i < n → rt i = i) (hpr : ∀ i, i < n → pr i = P) (t : Nat) : ∀ m, m ≤ n → prF (grNew N) rt pr m t = if t < m then P else -1
  | 0, _ => by rw [if_neg (Nat.not_lt_zero _)]; rfl
  | m + 1, hm => by
    show (if rchB (grNew N) (rt m) t = true then max (prF (grNew N) rt pr m t) (pr m) else prF (grNew N) rt pr m t) = _
    rw [hrt m (by omega), hpr m (by omega), rchB_nil hN (by omega), prF_nil hP hN hn rt pr hrt hpr t m (by omega)]
    by_cases h : t = m
    · rw [if_pos (decide_eq_true h), if_neg (by omega), if_pos (by omega)]; omega
    · rw [decide_eq_false h, if_neg (by decide)]
      by_cases h1 : t < m
      · rw [if_pos h1, if_pos (by omega)]
      · rw [if_neg h1, if_neg (by omega)]
theorem bestF_range (st pr : List Int) (P : Int) (n : Nat) (h : ∀ i, i < n → st.getD i 0 = 1 ∧ pr.getD i 0 = P) : ∀ m, m ≤ n → bestF st pr P m = List.range m
  | 0, _ => rfl
  | m + 1, hm => by rw [bestF_succ, if_pos (h m (by omega)), bestF_range st pr P n h m (by omega), List.range_succ]
theorem bestF_tail (st pr : List Int) (P : Int) (n : Nat) (h : ∀ i, i < n → st.getD i 0 = 1 ∧ pr.getD i 0 = P) : ∀ k, (∀ i, n ≤ i → i < n + k → st.getD i 0 = 0) → bestF st pr P (n + k) = List.range n
  | 0, _ => bestF_range st pr P n h n (Nat.le_refl _)
  | k + 1, h2 => by
    show bestF st pr P ((n + k) + 1) = _
    rw [bestF_succ, if_neg (by rw [h2 (n + k) (by omega) (by omega)]; omega), bestF_tail st pr P n h k (fun i h3 h4 => h2 i h3 (by omega))]
theorem bestAt_range {st pr : List Int} {n N : Nat} {P b : Int} {l : List Nat} (h : BestAt st pr N b l) (hn : 1 ≤ n) (hN : n ≤ N) (hP : 0 ≤ P) (h1 : ∀ i, i < n → st.getD i 0 = 1 ∧ pr.getD i 0 = P) (h2 : ∀ i, n ≤ i → i < N → st.getD i 0 = 0) : l = List.range n := by
  rcases h with ⟨_, _, h3⟩ | ⟨_, hl, hne, h3⟩
  · have := h3 0 (by omega) (h1 0 (by omega)).1
    rw [(h1 0 (by omega)).2] at this
    omega
  · have hb : b = P := by
      have h4 := h3 0 (by omega) (h1 0 (by omega)).1
      rw [(h1 0 (by omega)).2] at h4
      obtain ⟨x, hx⟩ := List.exists_mem_of_ne_nil l hne
      rw [hl] at hx
      unfold bestF at hx
      have hx1 := List.mem_range.1 (List.mem_filter.1 hx).1
      have hx2 := (List.mem_filter.1 hx).2
      simp only [decide_eq_true_eq] at hx2
      by_cases h5 : x < n
      · rw [(h1 x h5).2] at hx2; omega
      · have := h2 x (by omega) hx1
        omega
    obtain ⟨k, rfl⟩ : ∃ k, N = n + k := ⟨N - n, by omega⟩
    rw [hl, hb]
    exact bestF_tail st pr P n h1 k h2
theorem filterMap_map {α β : Type} (f : α → Option β) (g : α → β) : ∀ l : List α, (∀ x, x ∈ l → f x = some (g x)) → l.filterMap f = l.map g
  | [], _ => rfl
  | a :: l, h => by
    rw [List.filterMap_cons, h a (List.mem_cons_self ..), List.map_cons, filterMap_map f g l (fun x hx => h x (List.mem_cons_of_mem _ hx))]
theorem wantF_range {N n i : Nat} (hN : N ≤ 64) (hn : n ≤ N) (rt : Nat → Nat) (hi : i < n) (hr : rt i = i) : wantF (grNew N) (List.range n) rt i = some i := by
  have h : wantI (grNew N) (rt i) (List.range n) = (i : Int) := by
    unfold wantI
    refine fndN_some (by rw [List.length_range]; exact hi) ?_ (fun j hj => ?_)
    · rw [range_get n i hi, hr, rchB_nil hN (by omega)]; exact decide_eq_true rfl
    · rw [range_get n j (by omega), hr, rchB_nil hN (by omega)]; exact decide_eq_false (by omega)
  unfold wantF
  rw [h, if_neg (by omega), Int.toNat_natCast, range_get n i hi]
theorem costs_range {l : List Mb} {n : Nat} {c : Int} (hl : l.length = n) (hid : ∀ i, i < n → (mbs l i).id = (i : Int)) (hc : 1 ≤ c ∧ c ≤ 1048576) :
    ∀ m, m ≤ n → ((List.range m).map fun i : Nat => (⟨(i : Int), c⟩ : Wt)).foldl (costStep l) (List.replicate l.length 0, false) = ((List.range n).map fun i => if i < m then c else 0, decide (0 < m))
  | 0, _ => by
    show (List.replicate l.length 0, false) = _
    congr 1
    rw [hl]
    apply List.ext_getElem
    · simp
    · intro i h1 h2; simp
  | m + 1, hm => by
    rw [List.range_succ, List.map_append, List.foldl_append, costs_range hl hid hc m (by omega)]
    show costStep l _ ⟨(m : Int), c⟩ = _
    have hp : placeI l (m : Int) = (m : Int) := by
      unfold placeI
      refine fndN_some (by omega) ?_ (fun j hj => ?_)
      · unfold isId; rw [hid m (by omega)]; exact beq_self_eq_true _
      · unfold isId; rw [hid j (by omega)]; exact beq_eq_false_iff_ne.2 (by omega)
    unfold costStep
    rw [hp]
    have hr : rd ((List.range n).map fun i => if i < m then c else 0) (m : Int) = 0 := by
      unfold rd
      rw [Int.toNat_natCast, mrange_getD _ _ _ _ (by omega), if_neg (by omega)]
    rw [if_pos ⟨by omega, hr, hc.1, hc.2⟩, show decide (0 < m + 1) = true from decide_eq_true (by omega), Int.toNat_natCast]
    show (((List.range n).map fun i => if i < m then c else 0).set m c, true) = _
    congr 1
    apply List.ext_getElem
    · simp
    · intro i h1 h2
      rw [List.getElem_set]
      simp only [List.getElem_map, List.getElem_range]
      by_cases h3 : m = i
      · rw [if_pos h3, if_pos (by omega)]
      · rw [if_neg h3]
        by_cases h4 : i < m
        · rw [if_pos h4, if_pos (by omega)]
        · rw [if_neg h4, if_neg (by omega)]
structure Kc where
  N : Nat
  P : Int
  c : Cf
structure KcOk (n : Nat) (C : Kc) : Prop where
  c : CfOk C.c
  slots : C.c.slots = 1
  most : C.c.most = 1
  N : n ≤ C.N ∧ 1 ≤ C.N ∧ C.N ≤ 12
  P : 0 ≤ C.P ∧ C.P ≤ 7
  nb : 1 ≤ n ∧ n ≤ 5
  active : (n : Int) ≤ C.c.active
  budget : 2 ≤ C.c.budget
structure Mid (C : Kc) (cost : Int) (n : Nat) (wt : Nat → Int) (a : Nat) (st : Int) (hd on : Bool) (k m lg : Nat) (e : Eng) (got : Nat → Int) : Prop where
  inv : EngInv e
  sync : Sync e
  ok : KcOk n C
  c : e.c = C.c
  N : e.N = C.N
  mem : ∀ i, i < C.N → e.mem i = 1
  fcost : ∀ i, i < n → e.cost i = cost
  nr : e.nr = n
  rq : ∀ i, i < n → (e.rq i).root = (i : Int) ∧ (e.rq i).prio = C.P
  gr : e.gr = grNew C.N
  l1 : e.ad.l1 = (List.range n).map fun i : Nat => (i : Int)
  l2 : e.ad.l2 = []
  many : e.led.many = 1
  bud : e.led.budget = C.c.budget
  free : ∀ i, (e.led.p i).held = true → hd = true ∧ i = 0
  slot : hd = true → (e.led.p 0).held = true ∧ (e.led.p 0).id = (a : Int)
  life : ∀ i, i < n → i ≠ a → (e.life i).state = 1
  lifeA : (e.life a).state = st
  ms : ∀ i, i < n → (e.life i).missed ≤ (m : Int) ∧ (e.life i).tries = C.c.tries
  lifeN : ∀ i, n ≤ i → i < C.N → (e.life i).state = 0
  off : ∀ j, j < C.N → e.tm.on j → on = true ∧ j = a
  onA : on = true → e.tm.on a
  now : e.now = (k : Int)
  begun : e.begun ≤ (m : Int)
  log : e.log.length ≤ lg
  fair : FairT cost C.c.quantum n wt e.tu got
section
variable {C : Kc} {cost : Int} {n : Nat} {wt : Nat → Int} {a : Nat} {st : Int} {hd on : Bool} {k m lg : Nat} {e : Eng} {got : Nat → Int}
theorem Mid.rt (h : Mid C cost n wt a st hd on k m lg e got) (j : Nat) (hj : j < n) : ridF e j = j ∧ actRt e j = j ∧ actPr e j = C.P := by
  have h1 : ridF e j = j := by unfold ridF; rw [h.l1, mrange_getD _ _ _ _ hj, Int.toNat_natCast]
  refine ⟨h1, ?_, ?_⟩
  · unfold actRt rootN; rw [h1, (h.rq j hj).1, Int.toNat_natCast]
  · unfold actPr; rw [h1, (h.rq j hj).2]
theorem Mid.l1len (h : Mid C cost n wt a st hd on k m lg e got) : e.ad.l1.length = n := by rw [h.l1]; simp
theorem Mid.best (h : Mid C cost n wt a 1 hd on k m lg e got) {b : Int} {l : List Nat} (hb : BestAt (statesL e e.N) (prL e.gr (actRt e) (actPr e) e.ad.l1.length) e.N b l) : l = List.range n := by
  have hok := h.ok.N
  rw [h.N] at hb
  rw [h.l1len, h.gr] at hb
  refine bestAt_range hb h.ok.nb.1 hok.1 h.ok.P.1 (fun i hi => ⟨?_, ?_⟩) (fun i hi hi2 => ?_)
  · unfold statesL
    rw [mrange_getD _ _ _ _ (by omega)]
    by_cases hia : i = a
    · rw [hia]; exact h.lifeA
    · exact h.life i hi hia
  · unfold prL
    show ((List.range C.N).map (fun t => prF (grNew C.N) (actRt e) (actPr e) n t)).getD i 0 = C.P
    rw [mrange_getD _ _ _ _ (show i < C.N by omega), prF_nil (n := n) h.ok.P.1 (by omega) (by omega) _ _ (fun i hi => (h.rt i hi).2.1) (fun i hi => (h.rt i hi).2.2) i n (Nat.le_refl _), if_pos hi]
  · unfold statesL
    rw [mrange_getD _ _ _ _ (by omega)]
    exact h.lifeN i hi hi2
theorem Mid.own (h : Mid C cost n wt a st hd on k m lg e got) : dOwn e (List.range n) = List.range n := by
  have hN := h.ok.N
  unfold dOwn ownL
  rw [h.gr, h.l1len, filterMap_map _ (fun i : Nat => i) _ (fun i hi => wantF_range (by omega) (by omega) _ (List.mem_range.1 hi) (h.rt i (List.mem_range.1 hi)).2.1), List.map_id']
theorem Mid.ws (h : Mid C cost n wt a st hd on k m lg e got) : dWs e (List.range n) = (List.range n).map fun i : Nat => (⟨(i : Int), cost⟩ : Wt) := by
  have hN := h.ok.N
  unfold dWs wantsL
  rw [h.gr, h.l1len]
  refine filterMap_map _ _ _ (fun i hi => ?_)
  have hi' := List.mem_range.1 hi
  rw [wantF_range (by omega) (by omega) _ hi' (h.rt i hi').2.1]
  show some (⟨e.ad.l1.getD i 0, e.cost i⟩ : Wt) = _
  rw [h.l1, mrange_getD _ _ _ _ hi', h.fcost i hi']
theorem Mid.costs (h : Mid C cost n wt a st hd on k m lg e got) (hc : 1 ≤ cost ∧ cost ≤ 1048576) : (costsF e.tu.l (dWs e (List.range n))).2 = true ∧ ∀ i, i < e.tu.l.length → (costsF e.tu.l (dWs e (List.range n))).1.getD i 0 = cost := by
  have hl := h.fair.len
  have hn := h.ok.nb
  have hf : costsF e.tu.l (dWs e (List.range n)) = ((List.range n).map fun i => if i < n then cost else 0, decide (0 < n)) := by
    unfold costsF
    rw [h.ws]
    exact costs_range hl h.fair.fid hc n (Nat.le_refl _)
  rw [hf]
  refine ⟨decide_eq_true (by omega), fun i hi => ?_⟩
  rw [mrange_getD _ _ _ _ (by omega), if_pos (by omega)]
def RAll (e : Eng) (l : List Nat) (e' : Eng) (ys : List Nat) : Prop := e' = e ∧ ys = l ∧ (∀ x, x ∈ l → x < e.N) ∧ l.length ≤ 12
theorem reply_inj {a b c d f a' b' c' d' f' : Int} (h : reply a b c d f = reply a' b' c' d' f') : a = a' ∧ b = b' ∧ c = c' ∧ d = d' ∧ f = f' := by
  unfold reply at h
  injection h with h
  simp only [Array.mk.injEq, List.cons.injEq, Value.int.injEq, true_and, and_true] at h
  exact ⟨h.1, h.2.1, h.2.2.1, h.2.2.2.1, h.2.2.2.2.1⟩
theorem Mid.free_all (h : Mid C cost n wt a st false on k m lg e got) (i : Nat) : (e.led.p i).held = false := by
  cases h1 : (e.led.p i).held with
  | false => rfl
  | true => exact absurd (h.free i h1).1 (by decide)
theorem Mid.used (h : Mid C cost n wt a st false on k m lg e got) : e.led.used = 0 := by
  rw [h.inv.led.used, h.many]
  show 0 + (e.led.p 0).mem = 0
  rw [h.inv.led.free 0 (h.free_all 0)]
  rfl
theorem Mid.dispatch (h : Mid C cost n wt a 1 false false k m lg e got) (hc : 1 ≤ cost ∧ cost ≤ 1048576) {x y z u v er : Int} {e' : Eng} (hd : DispR (RAll e) e (reply x y z u v) er e') :
    er = 0 ∧ ∃ b : Nat, b < n ∧ x = (b : Int) ∧ u = 0 ∧ v = (e'.life b).epoch ∧ Mid C cost n wt b 2 true true k (m + 1) (lg + 1) e' (upf got b (got b + cost)) ∧ e'.c = e.c := by
  have hN := h.ok.N
  have hn := h.ok.nb.1
  have hbud := h.ok.budget
  obtain ⟨b0, l, hb, hd⟩ := hd
  have hl := h.best hb
  have hne : l ≠ [] := by rw [hl]; intro e0; have := congrArg List.length e0; rw [List.length_range] at this; simp at this; omega
  rcases hd with ⟨h1, _⟩ | ⟨_, h1, _⟩ | ⟨_, e1, ys, ⟨rfl, rfl, -, -⟩, _, hd⟩
  · exact absurd h1 hne
  · exact absurd h1.2.1.symm hne
  · subst hl
    obtain ⟨hc2, hcs⟩ := h.costs hc
    rcases hd with ⟨h1, _⟩ | ⟨_, t1, hm, hct, j, hj, hjl, hs⟩
    · rw [hc2] at h1; cases h1
    · have hlen := h.fair.len
      have hne1 : e1.tu.l ≠ [] := fun e0 => by rw [e0] at hlen; simp at hlen; omega
      have hcb : ∀ i, i < e1.tu.l.length → 0 ≤ (costsF e1.tu.l (dWs e1 (List.range n))).1.getD i 0 ∧ (costsF e1.tu.l (dWs e1 (List.range n))).1.getD i 0 ≤ 1048576 := fun i hi => by rw [hcs i hi]; omega
      obtain ⟨s1, s2, s3, s4⟩ := hm.same h.inv.tu hne1 hcb
      have f1 := h.fair.moves hm h.inv.tu hne1 hc hcs
      have hat : t1.at_ = (t1.at_.toNat : Int) := by have := s1.a.1; omega
      obtain ⟨b, hbb⟩ : ∃ b, t1.at_.toNat = b := ⟨_, rfl⟩
      rw [hbb] at hat
      have hbn : b < n := by
        have h1 := s1.a.2
        rcases h1 with h1 | ⟨_, h1⟩
        · omega
        · rw [h1] at s2; simp at s2; omega
      have hca : cAt (costsF e1.tu.l (dWs e1 (List.range n))).1 t1 = cost := by unfold cAt rd; rw [hbb]; exact hcs b (by omega)
      have hid : (mAt t1).id = (b : Int) := by unfold mAt; rw [hbb]; exact f1.fid b hbn
      have hjb : j = b := by
        rw [hid] at hj
        have h1 : wantAt (dWs e1 (List.range n)) (b : Int) = (b : Int) := by
          rw [h.ws]
          unfold wantAt
          refine fndN_some (by simp; exact hbn) ?_ (fun i hi => ?_)
          · unfold isId58; rw [mrange_getD _ _ _ _ hbn]; exact decide_eq_true rfl
          · unfold isId58; rw [mrange_getD _ _ _ _ (by omega)]; exact decide_eq_false (by show ¬ (i : Int) = (b : Int); omega)
        rw [h1] at hj
        omega
      have htask : (dOwn e1 (List.range n)).getD j 0 = b := by rw [h.own, hjb, range_get n b hbn]
      rw [htask, hid, hca] at hs
      have hti : TurInv (tookT t1 cost) := by have := take_inv s1 hct; rw [hca] at this; exact this
      have f2 := f1.took hc.1 hat hbn
      have hfree : fnd isFree e1.led = (0 : Nat) := fnd_some (by rw [h.many]; decide) (by unfold isFree; rw [h.free_all 0]; rfl) (fun j hj => absurd hj (Nat.not_lt_zero _))
      have hof : fnd (isOf (b : Int)) e1.led = -1 := fnd_none (fun i _ => by unfold isOf; rw [h.free_all i]; rfl)
      have hmem := h.mem b (by omega)
      have hte : takeErr e1.led (b : Int) (e1.mem b) = 0 := by
        unfold takeErr
        rw [hmem, h.bud, hof, hfree, h.used, if_neg (by omega), if_neg (by omega), if_neg (by omega), if_neg (by omega)]
      rcases hs with ⟨h1, _⟩ | ⟨_, hrv, her, q2, hq2, he'⟩
      · exact absurd hte h1
      · obtain ⟨rfl, _, _, rfl, rfl⟩ := reply_inj hrv
        have hslot : takeSlot e1.led (b : Int) (e1.mem b) = 0 := by unfold takeSlot; rw [if_pos hte, hfree]; rfl
        have hinv2 : EngInv { e1 with tu := tookT t1 cost } := h.inv.setTu hti
        have hinv3 := startsSt_inv (q := q2) hinv2 (t := b) (show b < e1.N by rw [h.N]; omega) hte hq2.inv (hq2.la.trans h.inv.tmN)
        rw [← he'] at hinv3
        have hlst : (e1.life b).state = 1 := by
          by_cases hba : b = a
          · rw [hba]; exact h.lifeA
          · exact h.life b hbn hba
        have hl' : ∀ i, e'.life i = if i = b then startSt (e1.life b) else e1.life i := fun i => by
          rw [he']
          show upf e1.life b (startSt (e1.life b)) i = _
          by_cases hib : i = b
          · rw [if_pos hib, hib, upf_same]
          · rw [if_neg hib, upf_far _ _ _ hib]
        have hled : e'.led = (e1.led.put 0 ⟨true, (b : Int), 1⟩).uses (e1.led.used + 1) := by
          rw [he']
          show takeSt e1.led (b : Int) (e1.mem b) = _
          unfold takeSt
          rw [if_pos hte, hfree, hmem]
          rfl
        have hp' : ∀ i, e'.led.p i = if i = 0 then ⟨true, (b : Int), 1⟩ else e1.led.p i := fun i => by rw [hled]; rfl
        have hss : startSt (e1.life b) = { e1.life b with state := 2, epoch := (e1.life b).epoch + 1 } := by unfold startSt; rw [if_pos hlst]
        refine ⟨her, b, hbn, rfl, hslot, ?_, ⟨hinv3, ?_, ?_, ?_, ?_, ?_, ?_, ?_, ?_, ?_, ?_, ?_, ?_, ?_, ?_, ?_, ?_, ?_, ?_, ?_, ?_, ?_, ?_, ?_, ?_, ?_⟩, by rw [he']; rfl⟩
        · rw [hl' b, if_pos rfl]
        · have hs0 : e1.tu.l.map Mb.id = e1.ad.l1 := h.sync
          rw [he']
          show (tookT t1 cost).l.map Mb.id = e1.ad.l1
          rw [h.l1]
          apply List.ext_getElem
          · rw [List.length_map, f2.len]; simp
          · intro i h1 h2
            rw [List.length_map] at h1
            have h3 := f2.fid i (by rw [f2.len] at h1; exact h1)
            rw [List.getElem_map]
            simp only [List.getElem_map, List.getElem_range]
            rw [← h3]
            unfold mbs
            rw [List.getD_eq_getElem?_getD, List.getElem?_eq_getElem h1]
            rfl
        · exact h.ok
        · rw [he']; exact h.c
        · rw [he']; exact h.N
        · rw [he']; exact h.mem
        · rw [he']; exact h.fcost
        · rw [he']; exact h.nr
        · rw [he']; exact h.rq
        · rw [he']; exact h.gr
        · rw [he']; exact h.l1
        · rw [he']; exact h.l2
        · rw [hled]; exact h.many
        · rw [hled]; exact h.bud
        · intro i hi
          rw [hp' i] at hi
          by_cases h0 : i = 0
          · exact ⟨rfl, h0⟩
          · rw [if_neg h0, h.free_all i] at hi; cases hi
        · intro _; rw [hp' 0, if_pos rfl]; exact ⟨rfl, rfl⟩
        · intro i hi hib
          rw [hl' i, if_neg hib]
          by_cases hia : i = a
          · rw [hia]; exact h.lifeA
          · exact h.life i hi hia
        · rw [hl' b, if_pos rfl, hss]
        · intro i hi
          have := h.ms i hi
          rw [hl' i]
          by_cases hib : i = b
          · rw [if_pos hib, hss, ← hib]
            show (e1.life i).missed ≤ ((m + 1 : Nat) : Int) ∧ (e1.life i).tries = C.c.tries
            omega
          · rw [if_neg hib]; omega
        · intro i hi hi2; rw [hl' i, if_neg (by omega)]; exact h.lifeN i hi hi2
        · intro j hj hon
          have h1 := (hq2.on j (by rw [h.inv.tmN, h.N]; exact hj)).1 (by rw [he'] at hon; exact hon)
          rcases h1 with h1 | h1
          · exact absurd (h.off j hj h1).1 (by decide)
          · exact ⟨rfl, h1⟩
        · intro _; rw [he']; exact (hq2.on b (by rw [h.inv.tmN, h.N]; omega)).2 (.inr rfl)
        · rw [he']; exact h.now
        · rw [he']
          show e1.begun + 1 ≤ ((m + 1 : Nat) : Int)
          have := h.begun
          omega
        · rw [he']
          show (e1.log ++ [_]).length ≤ lg + 1
          rw [List.length_append]
          have := h.log
          simp
          omega
        · rw [he']; exact f2
end
end Go.Proofs.YtbpoapfkeinjnaaGreatDoor.Ld
namespace Go.Proofs.YtbpoapfkeinjnaaGreatDoor.Ld
open Go.RowKit Go.Proofs.YtbpoapfkeinjnaaGreatDoorW.PrintWords Go.Proofs.YtbpoapfkeinjnaaGreatDoorW.PrintLast Go.Proofs.YtbpoapfkeinjnaaGreatDoorW.PrintMore
set_option linter.unusedVariables false
set_option linter.unusedSimpArgs false
set_option linter.unnecessarySimpa false
section
variable {C : Kc} {cost : Int} {n : Nat} {wt : Nat → Int} {a : Nat} {st : Int} {hd on : Bool} {k m lg : Nat} {e : Eng} {got : Nat → Int}
theorem Mid.answer (h : Mid C cost n wt a 2 true true k m lg e got) (ha : a < n) (hm : (m : Int) + 1 < C.c.tries) {Nd : Eng → Nat → Nat → Eng → Prop} {o : Opr} (o1 : o.a = 0) (o2 : o.b = (e.life a).epoch) (o3 : o.c = 2) {rv : Value} {er : Int} {e' : Eng} (hA : AnsR Nd e o rv er e') :
    er = 0 ∧ Mid C cost n wt a 4 false true k (m + 1) (lg + 1) e' got ∧ e'.tm.keys.getD a 0 ≤ (k : Int) + 1 ∧ e'.c = e.c := by
  have hN := h.ok.N
  have hat : atB e.led o.a = true ∧ atI e.led o.a = (a : Int) := by
    unfold atB atI
    rw [o1, h.many, if_pos ⟨by omega, by decide⟩, if_pos ⟨by omega, by decide⟩]
    exact h.slot rfl
  rcases hA with ⟨h1, _⟩ | ⟨t, _, hid, htN, h2⟩
  · rw [hat.1] at h1; cases h1
  have hta : t = a := by rw [hat.2] at hid; omega
  subst hta
  rcases h2 with ⟨h3, _⟩ | ⟨_, _, h3⟩
  · exact absurd ⟨h.lifeA, o2⟩ h3
  rcases h3 with ⟨h4, _⟩ | ⟨⟨q1, hq1, hT⟩, _, her⟩
  · rw [o3] at h4; omega
  rcases hT with ⟨h4, _⟩ | ⟨_, hM⟩ | ⟨h4, _⟩
  · rw [o3] at h4; omega
  · have hms := h.ms t ha
    have hst := h.lifeA
    have hss : missSt (e.life t) = { e.life t with state := 4, missed := (e.life t).missed + 1 } := by
      unfold missSt
      rw [if_pos hst, if_neg (by omega)]
    have hsy0 : e.tu.l.map Mb.id = e.ad.l1 := h.sync
    obtain ⟨i1, i2⟩ := hM.inv (endsSt_inv h.inv hq1) (show Sync (endsSt e 3 t q1) from hsy0) htN hst
    have hms2 : (missSt ((endsSt e 3 t q1).life t)).state = 4 := by show (missSt (e.life t)).state = 4; rw [hss]
    rcases hM with ⟨h5, _⟩ | ⟨_, q2, hq2, he'⟩
    · rw [hms2] at h5; omega
    · have hl' : ∀ i, e'.life i = if i = t then { e.life t with state := 4, missed := (e.life t).missed + 1 } else e.life i := fun i => by
        rw [he']
        show upf e.life t (missSt (e.life t)) i = _
        by_cases hib : i = t
        · rw [if_pos hib, hib, upf_same, hss]
        · rw [if_neg hib, upf_far _ _ _ hib]
      have hof : fnd (isOf (t : Int)) e.led = (0 : Nat) := fnd_some (by rw [h.many]; decide) (by unfold isOf; rw [(h.slot rfl).1, (h.slot rfl).2]; simp) (fun j hj => absurd hj (Nat.not_lt_zero _))
      have hled : e'.led = (e.led.uses (e.led.used - (e.led.p 0).mem)).put 0 nobody := by
        rw [he']
        show freeSt e.led (t : Int) = _
        unfold freeSt
        rw [hof, if_neg (by omega)]
        rfl
      have hp' : ∀ i, e'.led.p i = if i = 0 then nobody else e.led.p i := fun i => by rw [hled]; rfl
      have hla : q1.at_.length = C.N := by rw [hq1.la, h.inv.tmN, h.N]
      have htm : e'.tm = q2 := by rw [he']
      have hkl : q1.keys.length = C.N := by rw [hq1.inv.len, hla]
      have hdb := dblF_bd ((missSt ((endsSt e 3 t q1).life t)).missed - 1).toNat e.c.backoff e.c.most (by have := h.inv.c.backoff; omega) (by have := h.inv.c.most; omega)
      rw [show e.c.most = 1 from by rw [h.c]; exact h.ok.most] at hdb
      refine ⟨her, ⟨i1, i2, ?_, ?_, ?_, ?_, ?_, ?_, ?_, ?_, ?_, ?_, ?_, ?_, ?_, ?_, ?_, ?_, ?_, ?_, ?_, ?_, ?_, ?_, ?_, ?_⟩, ?_, by rw [he']; rfl⟩
      · exact h.ok
      · rw [he']; exact h.c
      · rw [he']; exact h.N
      · rw [he']; exact h.mem
      · rw [he']; exact h.fcost
      · rw [he']; exact h.nr
      · rw [he']; exact h.rq
      · rw [he']; exact h.gr
      · rw [he']; exact h.l1
      · rw [he']; exact h.l2
      · rw [hled]; exact h.many
      · rw [hled]; exact h.bud
      · intro i hi
        rw [hp' i] at hi
        by_cases h0 : i = 0
        · rw [if_pos h0] at hi; cases hi
        · rw [if_neg h0] at hi; exact absurd (h.free i hi).2 h0
      · intro hf; cases hf
      · intro i hi hib
        rw [hl' i, if_neg hib]
        exact h.life i hi hib
      · rw [hl' t, if_pos rfl]
      · intro i hi
        have := h.ms i hi
        rw [hl' i]
        by_cases hib : i = t
        · rw [if_pos hib]
          show (e.life t).missed + 1 ≤ ((m + 1 : Nat) : Int) ∧ (e.life t).tries = C.c.tries
          omega
        · rw [if_neg hib]; omega
      · intro i hi hi2; rw [hl' i, if_neg (by omega)]; exact h.lifeN i hi hi2
      · intro j hj hon
        rw [htm] at hon
        rcases (hq2.on j (by show j < q1.at_.length; omega)).1 hon with h1 | h1
        · have h2 := (hq1.on j (by rw [← hq1.la]; omega)).1 h1
          exact absurd (h.off j hj h2.1).2 h2.2
        · exact ⟨rfl, h1⟩
      · intro _; rw [htm]; exact (hq2.on t (by show t < q1.at_.length; omega)).2 (.inr rfl)
      · rw [he']; exact h.now
      · rw [he']
        show e.begun ≤ ((m + 1 : Nat) : Int)
        have := h.begun
        omega
      · rw [he']
        show (e.log ++ [_]).length ≤ lg + 1
        rw [List.length_append]
        have := h.log
        simp
        omega
      · rw [he']; exact h.fair
      · rw [htm, hq2.keys]
        show (q1.keys.set t _).getD t 0 ≤ _
        rw [List.getD_eq_getElem?_getD, List.getElem?_set, if_pos rfl, if_pos (by omega)]
        show e.now + dblF ((missSt ((endsSt e 3 t q1).life t)).missed - 1).toNat e.c.backoff e.c.most ≤ (k : Int) + 1
        rw [h.now, show e.c.most = 1 from by rw [h.c]; exact h.ok.most]
        omega
  · rw [o3] at h4; omega
theorem fold_one {e e' : Eng} {u : Nat} : ∀ {l : List Nat}, TickFold e l e' → l = [u] → TickOne e u e' := by
  intro l hl he
  cases hl with
  | nil => cases he
  | snoc h1 k1 =>
    rename_i e1 us u1
    have hus : us = [] := by
      have := congrArg List.length he
      rw [List.length_append] at this
      exact List.eq_nil_of_length_eq_zero (by simp at this; exact this ▸ rfl)
    subst hus
    have hu : u1 = u := by simpa using he
    subst hu
    generalize hl : ([] : List Nat) = l0 at h1
    cases h1 with
    | nil => exact k1
    | snoc h2 k2 => exact absurd (congrArg List.length hl) (by rw [List.length_append]; simp)
theorem Mid.tick (h : Mid C cost n wt a 4 false true k m lg e got) (ha : a < n) (hk : k ≤ 1000) (hkey : e.tm.keys.getD a 0 ≤ (k : Int) + 1) {rv : Value} {er : Int} {e' : Eng} (hT : TickR e rv er e') :
    er = 0 ∧ Mid C cost n wt a 1 false false (k + 1) m lg e' got ∧ e'.c = e.c := by
  have hnow := h.now
  rcases hT with ⟨h1, _⟩ | ⟨_, _, her, ids, q1, hl, hd, hf⟩
  · omega
  have hN := h.ok.N
  have hla : e.tm.at_.length = C.N := by rw [h.inv.tmN, h.N]
  have h0 : q1.l.length = 0 := by
    rcases hd.2 with h1 | ⟨x, hx, hon, hlt⟩
    · exact h1
    · have h2 := (hl.on x hx).1 hon
      have h3 := (h.off x (by omega) h2.1).2
      rw [h3] at hlt
      omega
  have hoff : ∀ j, j < C.N → ¬ q1.on j := fun j hj => hl.inv.none h0 j (by rw [hl.la]; omega)
  have hin : a ∈ ids := Classical.byContradiction fun hx => hoff a (by omega) ((hl.on a (by omega)).2 ⟨h.onA rfl, hx⟩)
  have hall : ∀ x, x ∈ ids → x = a := fun x hx => (h.off x (by have := (hl.mem x hx).1; omega) (hl.mem x hx).2).2
  have hids : ids = [a] := by
    match hi : ids, hin, hall, hl.dup with
    | [], hin, _, _ => cases hin
    | [x], _, hall, _ => rw [hall x (List.mem_singleton.2 rfl)]
    | x :: y :: r, _, hall, hdup =>
      have h1 := hall x (by simp)
      have h2 := hall y (by simp)
      rw [h1, h2] at hdup
      simp at hdup
  have hst := h.lifeA
  have ho := fold_one hf hids
  rcases ho with ⟨h1, _⟩ | ⟨_, he'⟩ | ⟨_, h1, _⟩
  · have h1' : (e.life a).state = 2 := h1
    omega
  · have hinv : EngInv { e with now := e.now + 1, tm := q1 } := { h.inv with now := by show 0 ≤ e.now + 1 ∧ e.now + 1 ≤ 1099511627776; omega, tm := hl.inv, tmN := hl.la.trans h.inv.tmN }
    have hss : stepSt (e.life a) 4 1 = { e.life a with state := 1 } := by unfold stepSt; rw [if_pos hst]
    have hl' : ∀ i, e'.life i = if i = a then { e.life a with state := 1 } else e.life i := fun i => by
      rw [he']
      show upf e.life a (stepSt (e.life a) 4 1) i = _
      by_cases hib : i = a
      · rw [if_pos hib, hib, upf_same, hss]
      · rw [if_neg hib, upf_far _ _ _ hib]
    have hinv2 : EngInv e' := by
      rw [he']
      exact hinv.setLife a _ ((h.inv.life a (by rw [h.N]; omega)).step 4 1 ⟨by omega, by omega⟩ (fun h => by omega))
    refine ⟨her, ⟨hinv2, ?_, ?_, ?_, ?_, ?_, ?_, ?_, ?_, ?_, ?_, ?_, ?_, ?_, ?_, ?_, ?_, ?_, ?_, ?_, ?_, ?_, ?_, ?_, ?_, ?_⟩, by rw [he']; rfl⟩
    · have hsy0 : e.tu.l.map Mb.id = e.ad.l1 := h.sync
      rw [he']; exact hsy0
    · exact h.ok
    · rw [he']; exact h.c
    · rw [he']; exact h.N
    · rw [he']; exact h.mem
    · rw [he']; exact h.fcost
    · rw [he']; exact h.nr
    · rw [he']; exact h.rq
    · rw [he']; exact h.gr
    · rw [he']; exact h.l1
    · rw [he']; exact h.l2
    · rw [he']; exact h.many
    · rw [he']; exact h.bud
    · intro i hi; rw [he'] at hi; exact absurd (h.free i hi).1 (by decide)
    · intro hf; cases hf
    · intro i hi hib
      rw [hl' i, if_neg hib]
      exact h.life i hi hib
    · rw [hl' a, if_pos rfl]
    · intro i hi
      have := h.ms i hi
      rw [hl' i]
      by_cases hib : i = a
      · rw [if_pos hib, ← hib]; exact this
      · rw [if_neg hib]; exact this
    · intro i hi hi2; rw [hl' i, if_neg (by omega)]; exact h.lifeN i hi hi2
    · intro j hj hon; rw [he'] at hon; exact absurd hon (hoff j hj)
    · intro hf; cases hf
    · rw [he']; show e.now + 1 = ((k + 1 : Nat) : Int); omega
    · rw [he']; exact h.begun
    · rw [he']; exact h.log
    · rw [he']; exact h.fair
  · have h1' : (e.life a).state ≠ 4 := h1
    omega
end
end Go.Proofs.YtbpoapfkeinjnaaGreatDoor.Ld
namespace Go.Proofs.YtbpoapfkeinjnaaGreatDoor.Ld
open Go.RowKit Go.Proofs.YtbpoapfkeinjnaaGreatDoorW.PrintWords Go.Proofs.YtbpoapfkeinjnaaGreatDoorW.PrintLast Go.Proofs.YtbpoapfkeinjnaaGreatDoorW.PrintMore
set_option linter.unusedVariables false
set_option linter.unusedSimpArgs false
set_option linter.unnecessarySimpa false
theorem lifeNew_ok (a b : Int) (ha : 1 ≤ a ∧ a ≤ 1048576) (hb : 0 ≤ b ∧ b ≤ 1048576) : LifeOk 0 (lifeNew a b) := by
  unfold lifeNew
  rw [if_neg (by omega), if_neg (by omega)]
  exact ⟨by show (0 : Int) ≤ 0 ∧ (0 : Int) ≤ 7; omega, by show (0 : Int) ≤ 0 ∧ (0 : Int) ≤ 0; omega, by show (0 : Int) ≤ 0 ∧ 0 ≤ a; omega, .inl (by show (0 : Int) < a; omega), ha.2, by show (0 : Int) ≤ 0 ∧ 0 ≤ b; omega, hb.2⟩
theorem eng0_inv (c : Cf) (hc : CfOk c) (N : Nat) (hN : 1 ≤ N ∧ N ≤ 12) (mem cost : Nat → Int) (htd : ∀ i, i < N → 1 ≤ mem i ∧ mem i ≤ 1048576 ∧ 1 ≤ cost i ∧ cost i ≤ 1048576)
    (hroom : ∃ M : Int, 0 ≤ M ∧ (∀ i, i < N → mem i ≤ M) ∧ (c.slots + 1) * M ≤ c.budget) : EngInv (eng0 c N mem cost) where
  N := hN
  c := hc
  td := htd
  life := fun i hi => lifeNew_ok _ _ hc.tries hc.preempts
  nr := by show 0 ≤ 64; omega
  rq := fun i hi => absurd hi (Nat.not_lt_zero _)
  gN := rfl
  gr := grNew_inv N (by omega)
  tm := hpNew_inv N
  tmN := by show (List.replicate N (-1 : Int)).length = N; simp
  led := inv_fresh _ _ (by have := hc.budget; omega)
  ledid := fun i hi => by cases hi
  ledb := by show Ld.pos c.budget = c.budget; unfold Ld.pos; rw [if_neg (by have := hc.budget; omega)]
  ad := by
    have := hc.active
    refine ⟨List.nodup_nil, fun x hx => (by cases hx), by show 0 + 0 ≤ 0; omega, ?_⟩
    show (0 : Int) ≤ (if c.active < 1 then 1 else c.active)
    split <;> omega
  tu := turNew_inv _
  now := by show (0 : Int) ≤ 0 ∧ (0 : Int) ≤ 1099511627776; omega
  begun := Int.le_refl _
  room := by
    obtain ⟨M, h0, h1, h2⟩ := hroom
    refine ⟨M, h0, h1, fun j => h0, ?_⟩
    have hs := hc.slots
    have : ((eng0 c N mem cost).led.many : Int) = c.slots := by
      show ((fresh c.budget c.slots).many : Int) = c.slots
      rw [fresh_many]
      unfold Ld.pos
      rw [if_neg (by omega), if_neg (by omega)]
    rw [this]
    exact h2
theorem eng0_sync (c : Cf) (N : Nat) (mem cost : Nat → Int) : Sync (eng0 c N mem cost) := rfl
theorem over_none {e e' : Eng} (h : Over e e') (hlow : ∀ r : Nat, (r : Int) ∈ e.ad.l1 → (e.life (rootN e r)).state < 5) : e' = e := by
  cases h with
  | done _ => rfl
  | step r hr hf k => have := hlow r hr; omega
structure Sub (C : Kc) (cost : Int) (n : Nat) (wt : Nat → Int) (j : Nat) (e : Eng) : Prop where
  inv : EngInv e
  sync : Sync e
  ok : KcOk n C
  c : e.c = C.c
  N : e.N = C.N
  mem : ∀ i, i < C.N → e.mem i = 1
  fcost : ∀ i, i < C.N → e.cost i = cost
  nr : e.nr = j
  rq : ∀ i, i < j → (e.rq i).root = (i : Int) ∧ (e.rq i).prio = C.P
  gr : e.gr = grNew C.N
  ad : e.ad = { admNew C.c.active C.c.queue with l1 := (List.range j).map fun i : Nat => (i : Int) }
  led : e.led = fresh C.c.budget C.c.slots
  life : ∀ i, i < C.N → e.life i = if i < j then { lifeNew C.c.tries C.c.preempts with state := 1 } else lifeNew C.c.tries C.c.preempts
  tm : e.tm = hpNew C.N
  now : e.now = 0
  begun : e.begun = 0
  log : e.log = []
  tu : e.tu = ⟨C.c.quantum, 0, (List.range j).map fun i : Nat => ⟨(i : Int), wt i, 0⟩⟩
theorem sub_start (C : Kc) (cost : Int) (n : Nat) (wt : Nat → Int) (hC : KcOk n C) (hc : 1 ≤ cost ∧ cost ≤ 60) : Sub C cost n wt 0 (eng0 C.c C.N (fun _ => 1) (fun _ => cost)) where
  inv := eng0_inv _ hC.c _ hC.N.2 _ _ (fun i _ => by show (1 : Int) ≤ 1 ∧ (1 : Int) ≤ 1048576 ∧ 1 ≤ cost ∧ cost ≤ 1048576; omega) ⟨1, by omega, fun i _ => Int.le_refl _, by rw [hC.slots]; exact hC.budget⟩
  sync := rfl
  ok := hC
  c := rfl
  N := rfl
  mem := fun _ _ => rfl
  fcost := fun _ _ => rfl
  nr := rfl
  rq := fun i hi => absurd hi (Nat.not_lt_zero _)
  gr := rfl
  ad := rfl
  led := rfl
  life := fun i _ => by rw [if_neg (Nat.not_lt_zero _)]; rfl
  tm := rfl
  now := rfl
  begun := rfl
  log := rfl
  tu := by
    have hq := hC.c.quantum
    show (⟨cutQ C.c.quantum, 0, []⟩ : Tur) = _
    unfold cutQ
    rw [if_neg (by rw [if_neg (by omega)]; omega), if_neg (by omega)]
    rfl
section
variable {C : Kc} {cost : Int} {n : Nat} {wt : Nat → Int} {j : Nat} {e : Eng}
theorem Sub.submit (h : Sub C cost n wt j e) (hj : j < n) (hw : 1 ≤ wt j ∧ wt j ≤ 20) {o : Opr} (o1 : o.a = (j : Int)) (o2 : o.b = wt j) (o3 : o.c = C.P) {x y z u v er : Int} {e' : Eng} (hS : SubmitR e o (reply x y z u v) er e') :
    er = 0 ∧ x = (j : Int) ∧ Sub C cost n wt (j + 1) e' := by
  have hN := h.ok.N
  have hP := h.ok.P
  have hn := h.ok.nb
  have hact := h.ok.active
  have hok : ReqOk e o := ⟨by omega, by rw [h.N]; omega, by omega, by omega, by omega, by omega⟩
  have hnot : ∀ l : List Int, l = (List.range j).map (fun i : Nat => (i : Int)) → ¬ 0 ≤ indexI l (j : Int) := fun l hl hx => by
    have := (indexI_mem _ _).1 hx
    rw [hl] at this
    obtain ⟨i, hi, he⟩ := List.mem_map.1 this
    have := List.mem_range.1 hi
    omega
  have hsb : stateB e.ad (j : Int) = false := by
    unfold stateB
    rw [decide_eq_false (hnot e.ad.l1 (by rw [h.ad])), decide_eq_false (fun hx => by
      have := (indexI_mem _ _).1 hx
      rw [h.ad] at this
      cases this)]
    rfl
  have hf1 : free1 e.ad = true := by unfold free1; rw [h.ad]; show decide ((((List.range j).map fun i : Nat => (i : Int)).length : Int) < (if C.c.active < 1 then 1 else C.c.active)) = true; rw [List.length_map, List.length_range, if_neg (by omega)]; exact decide_eq_true (by omega)
  have hE : aAddE e.ad (e.nr : Int) = 0 := by unfold aAddE; rw [h.nr, hsb, hf1]; rfl
  have hI : aAddI e.ad (e.nr : Int) = 1 := by unfold aAddI; rw [h.nr, hsb, hf1]; rfl
  have hSt : aAddSt e.ad (e.nr : Int) = { e.ad with l1 := e.ad.l1 ++ [(j : Int)] } := by unfold aAddSt; rw [h.nr, hsb, hf1]; rfl
  have h64 : e.nr < 64 := by rw [h.nr]; omega
  rcases hS with ⟨h1, _⟩ | ⟨_, h1, _⟩ | ⟨_, _, h1, _⟩ | ⟨_, _, _, hrv, her, h2⟩
  · exact absurd hok h1
  · omega
  · exact absurd hE h1
  rcases h2 with ⟨_, hov⟩ | ⟨h1, _⟩
  · obtain ⟨hx, _⟩ := reply_inj hrv
    have hi1 := beginsSt_inv (addR_inv h.inv o hok h64 hE) (show e.nr < e.nr + 1 by omega) (addR_tu h.inv h.sync o)
    have hs1 := (addR_sync h.inv h.sync o hok hE).1 hI
    have hro : rootN (addR e o) e.nr = j := by
      unfold rootN
      show (upf e.rq e.nr _ e.nr).root.toNat = j
      rw [upf_same]
      show o.a.toNat = j
      omega
    have hlf : ∀ i, (beginsSt (addR e o) e.nr).life i = if i = j then stepSt (e.life j) 0 1 else e.life i := fun i => by
      show upf e.life (rootN (addR e o) e.nr) (stepSt (e.life (rootN (addR e o) e.nr)) 0 1) i = _
      rw [hro]
      by_cases hij : i = j
      · rw [if_pos hij, hij, upf_same]
      · rw [if_neg hij, upf_far _ _ _ hij]
    have hlj : stepSt (e.life j) 0 1 = { lifeNew C.c.tries C.c.preempts with state := 1 } := by
      rw [h.life j (by omega), if_neg (by omega)]
      rfl
    have he' : e' = beginsSt (addR e o) e.nr := over_none hov fun r hr => by
      obtain ⟨r', hr', hlt⟩ := hi1.ad.lt _ (List.mem_append_left _ hr)
      have hrr : r' = r := by omega
      rw [hrr] at hlt
      have h3 := (hi1.root hlt).2
      rw [hlf]
      have h4 : rootN (beginsSt (addR e o) e.nr) r < C.N := by rw [← h.N]; exact h3
      split
      · rw [hlj]; show (1 : Int) < 5; omega
      · rw [h.life _ h4]
        split
        · show (1 : Int) < 5; omega
        · show (0 : Int) < 5; omega
    have hrq : ∀ i, e'.rq i = if i = j then ⟨o.a, o.b, o.c, 1⟩ else e.rq i := fun i => by
      rw [he']
      show upf (upf e.rq e.nr _) e.nr _ i = _
      rw [h.nr]
      by_cases hij : i = j
      · rw [if_pos hij, hij, upf_same]
        show ({ (upf e.rq e.nr _ j) with state := 1 } : Rq) = _
        rw [h.nr, upf_same]
      · rw [if_neg hij, upf_far _ _ _ hij, upf_far _ _ _ hij]
    refine ⟨her, hx.trans (by rw [h.nr]), ⟨he' ▸ hi1, he' ▸ hs1, h.ok, ?_, ?_, ?_, ?_, ?_, ?_, ?_, ?_, ?_, ?_, ?_, ?_, ?_, ?_, ?_⟩⟩
    · rw [he']; exact h.c
    · rw [he']; exact h.N
    · rw [he']; exact h.mem
    · rw [he']; exact h.fcost
    · rw [he']; show e.nr + 1 = j + 1; rw [h.nr]
    · intro i hi
      rw [hrq i]
      by_cases hij : i = j
      · rw [if_pos hij, hij]; exact ⟨o1, o3⟩
      · rw [if_neg hij]; exact h.rq i (by omega)
    · rw [he']; exact h.gr
    · rw [he']
      show aAddSt e.ad (e.nr : Int) = _
      rw [hSt, h.ad, List.range_succ, List.map_append]
      rfl
    · rw [he']; exact h.led
    · intro i hi
      rw [he', hlf i]
      by_cases hij : i = j
      · rw [if_pos hij, if_pos (by omega), hlj]
      · rw [if_neg hij, h.life i hi]
        by_cases h5 : i < j
        · rw [if_pos h5, if_pos (by omega)]
        · rw [if_neg h5, if_neg (by omega)]
    · rw [he']; exact h.tm
    · rw [he']; exact h.now
    · rw [he']; exact h.begun
    · rw [he']; exact h.log
    · rw [he']
      show joinSt e.tu (e.nr : Int) ((addR e o).rq e.nr).weight = _
      have hwt : ((addR e o).rq e.nr).weight = wt j := by show (upf e.rq e.nr _ e.nr).weight = _; rw [upf_same]; exact o2
      have hno : (e.nr : Int) ∉ e.tu.l.map Mb.id := fun hm => by
        rw [h.tu, h.nr, List.map_map] at hm
        obtain ⟨i, hi, he⟩ := List.mem_map.1 hm
        have := List.mem_range.1 hi
        have he2 : (i : Int) = (j : Int) := he
        omega
      rw [hwt, joinSt_ok ⟨by omega, by omega⟩ hno, h.tu, h.nr, List.range_succ, List.map_append]
      rfl
  · rw [hI] at h1; omega
theorem Sub.mid (h : Sub C cost n wt n e) (hc : 1 ≤ cost ∧ cost ≤ 60) (hw : ∀ i, i < n → 1 ≤ wt i ∧ wt i ≤ 20) : Mid C cost n wt 0 1 false false 0 0 0 e (fun _ => 0) where
  inv := h.inv
  sync := h.sync
  ok := h.ok
  c := h.c
  N := h.N
  mem := h.mem
  fcost := fun i hi => h.fcost i (by have := h.ok.N; omega)
  nr := h.nr
  rq := h.rq
  gr := h.gr
  l1 := by rw [h.ad]
  l2 := by rw [h.ad]; rfl
  many := by rw [h.led, h.ok.slots]; rfl
  bud := by rw [h.led]; show Ld.pos C.c.budget = _; unfold Ld.pos; rw [if_neg (by have := h.ok.budget; omega)]
  free := fun i hi => by rw [h.led] at hi; cases hi
  slot := fun hf => by cases hf
  life := fun i hi _ => by rw [h.life i (by have := h.ok.N; omega), if_pos hi]
  lifeA := by rw [h.life 0 (by have := h.ok.N; omega), if_pos (by have := h.ok.nb; omega)]
  ms := fun i hi => by rw [h.life i (by have := h.ok.N; omega), if_pos hi]; exact ⟨Int.le_refl _, by show (if C.c.tries < 1 then 1 else C.c.tries) = C.c.tries; rw [if_neg (by have := h.ok.c.tries; omega)]⟩
  lifeN := fun i hi hi2 => by rw [h.life i hi2, if_neg (by omega)]; rfl
  off := fun j hj hon => by
    rw [h.tm] at hon
    have : (0 : Int) ≤ (List.replicate C.N (-1 : Int)).getD j 0 := hon
    rw [getD_rep _ _ _ hj] at this
    omega
  onA := fun hf => by cases hf
  now := by rw [h.now]; rfl
  begun := by rw [h.begun]; exact Int.le_refl _
  log := by rw [h.log]; exact Nat.le_refl _
  fair := by
    have hm : ∀ i, i < n → mbs e.tu.l i = ⟨(i : Int), wt i, 0⟩ := fun i hi => by
      rw [h.tu]
      show ((List.range n).map fun i : Nat => (⟨(i : Int), wt i, 0⟩ : Mb)).getD i mb0 = _
      rw [mrange_getD _ _ _ _ hi]
    refine ⟨by rw [h.tu], by rw [h.tu]; simp, fun i hi => by rw [hm i hi], fun i hi => by rw [hm i hi], ⟨0, fun i hi => ?_⟩, fun i hi _ => by rw [hm i hi]; show (0 : Int) < cost; omega, fun i hi _ => ?_⟩
    · rw [hm i hi, if_neg (fun h1 => by rw [h.tu] at h1; have : (i : Int) ≤ 0 := h1.2; omega)]
      show (0 : Int) + 0 = _
      rw [Int.mul_zero]; rfl
    · rw [hm i hi]
      show (0 : Int) < cost + C.c.quantum * wt i
      have := Int.mul_nonneg (show 0 ≤ C.c.quantum by have := h.ok.c.quantum; omega) (show 0 ≤ wt i by have := hw i hi; omega)
      omega
end
end Go.Proofs.YtbpoapfkeinjnaaGreatDoor.Ld
