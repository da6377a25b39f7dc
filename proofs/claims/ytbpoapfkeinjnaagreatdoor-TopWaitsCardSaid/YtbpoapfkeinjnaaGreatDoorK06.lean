/- The engine of the yard and what it leans on, part 6. -/
import Derived.Test.YtbpoapfkeinjnaaGreatDoorK05
import Derived.StillTailTactics
import Derived.Deep.QuietTactic
import Derived.BigQuiet
namespace Go.Proofs.YtbpoapfkeinjnaaGreatDoor.Qt
open Go
set_option linter.unusedVariables false
set_option linter.unusedSimpArgs false
section
variable {P : Program} {ops : Array Oper} {md : Region.Mode} {C : World → Prop}
def headQ (P : Program) (md : Region.Mode) (ops : Array Oper) (C : World → Prop) (n : Nat) (L : Array Bool → Act → Prop) (f : Nat) : Array Bool → Act → Prop :=
  match f with
  | 0 => L
  | f + 1 => fun listed a => (∃ i, i ∈ Region.ready md ops listed) ∧ ∀ i, i ∈ Region.ready md ops listed → i < n ∧ qOp P ops C i (headQ P md ops C n L f (listed.setIfInBounds i true)) a
theorem headQ_any {n g : Nat} {L : Array Bool → Act → Prop} {Q' : Exit → Act → World → Prop} (hL : ∀ listed a w, C w → L listed a → wpAny P md ops Q' g listed a w) (f : Nat) :
    ∀ (listed : Array Bool) (a : Act) (w : World), C w → headQ P md ops C n L f listed a → wpAny P md ops Q' (f + g) listed a w := by
  induction f with
  | zero => intro listed a w hw h; rw [Nat.zero_add]; exact hL _ _ _ hw h
  | succ f ih =>
    intro listed a w hw ⟨⟨i, hi⟩, h⟩
    rw [Nat.succ_add]
    refine ⟨fun e => ?_, fun j hj => wpOp_of_qOp hw (fun a' w' hw' h' => ih _ a' w' hw' h') (h j hj).2⟩
    rw [e] at hi
    cases hi
theorem headQ_first {n i : Nat} {o : Oper} {v : Value} {L : Array Bool → Act → Prop} (hi : ops[i]? = some o) (hsel : ∀ (j : Nat) (o : Oper) cs b, ops[j]? = some o → o.op ≠ .select cs b)
    (hs : Region.sinkB md ops n = true) (hc : Region.chainB md ops n = true) (hn : n < ops.size) (hin : i < n) (hend : ∀ listed a, L listed a → ∀ j ∈ Region.ready md ops listed, n ≤ j) (f : Nat) :
    ∀ (listed : Array Bool) (a : Act), HeadInv md ops n listed → (∀ j o', ops[j]? = some o' → j ≠ i → listed.getD j true = false → (∀ e ∈ o'.after, Region.binds md e = true → e.on ≠ i) → o.apart ops o' = true) →
      i ∈ Region.ready md ops listed → YieldsIn P ops C o v a → headQ P md ops C n L f (listed.setIfInBounds i true) (a.put o.dst v) → headQ P md ops C n L (f + 1) listed a := by
  have below : ∀ listed, HeadInv md ops n listed → i ∈ Region.ready md ops listed → ∀ j, j ∈ Region.ready md ops listed → j < n := fun listed inv hr j hj =>
    Nat.lt_of_not_le fun hle => tail_waits hs hc hn inv _ i rfl hin (mem_ready.1 hr).1 j hle hj
  induction f with
  | zero =>
    intro listed a inv _ hr hy H
    refine ⟨⟨i, hr⟩, fun j hj => ⟨below _ inv hr j hj, ?_⟩⟩
    rcases Nat.decEq j i with hji | hji
    · exact absurd (hend _ _ H j (ready_mono hj hji)) (Nat.not_le.2 (below _ inv hr j hj))
    · rw [hji]; exact hy.qOp hi H
  | succ f ih =>
    intro listed a inv hfree hr hy H
    refine ⟨⟨i, hr⟩, fun j hj => ⟨below _ inv hr j hj, ?_⟩⟩
    rcases Nat.decEq j i with hji | hji
    · obtain ⟨hun, o', ho', hafter⟩ := mem_ready.1 hj
      have hfalse := getD_both (mem_ready.1 hr).1
      have hapart := hfree j o' ho' hji hun fun e he hb heq => by
        have := hafter e he hb
        rw [heq, hfalse] at this
        cases this
      refine qOp_mono (fun a' ⟨hy', hH⟩ => ih _ a' (inv.set hj (below _ inv hr j hj)) (fun k ok hk hki hu hno => hfree k ok hk hki ?_ hno) (ready_mono hr (Ne.symm hji)) hy' ?_)
        (qOp_put ho' hapart (fun cs b => hsel i o cs b hi) (fun cs b => hsel j o' cs b ho') hy (H.2 j (ready_mono hj hji)).2)
      · rcases Nat.decEq j k with hjk | hjk
        · rwa [getD_set_ne true hjk] at hu
        · rw [← hjk]; exact hun
      · rw [Array.setIfInBounds_comm _ _ hji]; exact hH
    · rw [hji]; exact hy.qOp hi H
theorem headQ_lex {n g : Nat} {Lq : Act → Prop} (hsel : Region.noSelect ops = true) (hs : Region.sinkB md ops n = true) (hc : Region.chainB md ops n = true) (hn : n < ops.size) (l : List Oper) :
    ∀ (k : Nat) (listed : Array Bool) (a : Act), (∀ j, j < l.length → l[j]? = ops[k + j]?) → k + l.length = n → HeadInv md ops n listed → Region.lexHead md ops g l.length k listed = true → wpQuiet P ops C Lq l a →
    headQ P md ops C n (fun listed' a' => Region.seqB md ops g n listed' = true ∧ Lq a') l.length listed a := by
  induction l with
  | nil =>
    intro k listed a _ hk _ hB h
    have hkn : k = n := hk
    rw [hkn] at hB
    exact ⟨hB, h⟩
  | cons o l ih =>
    intro k listed a hl hk inv hB h
    have h0 : ops[k]? = some o := (hl 0 (Nat.zero_lt_succ _)).symm
    have hk' : k + 1 + l.length = n := by rw [List.length_cons] at hk; omega
    have hB' : (Region.ready md ops listed).contains k = true ∧ Region.free md ops listed k = true ∧ Region.lexHead md ops g l.length (k + 1) (listed.setIfInBounds k true) = true := by
      have hB2 : ((Region.ready md ops listed).contains k && Region.free md ops listed k && Region.lexHead md ops g l.length (k + 1) (listed.setIfInBounds k true)) = true := hB
      rw [Bool.and_eq_true, Bool.and_eq_true] at hB2
      exact ⟨hB2.1.1, hB2.1.2, hB2.2⟩
    have hr : k ∈ Region.ready md ops listed := by simpa using hB'.1
    obtain ⟨v, hy, hK⟩ := yieldsIn_of_qOp (P := P) (C := C) (K := wpQuiet P ops C Lq l) h0 (by unfold qOp; simp only [h0]; exact h)
    refine headQ_first h0 (Region.noSelect_spec hsel) hs hc hn (by omega) (fun listed' a' hL => seqB_ready hL.1) l.length listed a inv (Region.free_spec h0 hB'.2.1) hr hy
      (ih (k + 1) _ _ (fun j hj => ?_) hk' (inv.set hr (by omega)) hB'.2.2 hK)
    rw [show k + 1 + j = k + (j + 1) by omega]
    exact hl (j + 1) (Nat.succ_lt_succ hj)
theorem wp_region_quiet_tail {id : Nat} {Q : Exit → Act → World → Prop} {a : Act} {w : World} {l : List Oper} (n : Nat) (hm : P.follows .mixedOrders = true) (hB : Region.lexTailB .any l.toArray n = true)
    (h : wpQuiet P l.toArray (fun w' => ∃ m, w' = w.drewN m) (fun a' => ∀ w', (∃ m, w' = w.drewN m) → wpList P l.toArray Q (l.drop n) a' w') (l.take n) a) : (Code.region id l.toArray true).wp P Q a w := by
  have hB2 : (((Region.noSelect l.toArray && decide (n < l.toArray.size)) && Region.sinkB .any l.toArray n) && Region.chainB .any l.toArray n && Region.lexHead .any l.toArray (l.toArray.size - n) n 0 (Array.replicate l.toArray.size false)) = true := hB
  rw [Bool.and_eq_true, Bool.and_eq_true, Bool.and_eq_true, Bool.and_eq_true, decide_eq_true_eq] at hB2
  obtain ⟨⟨⟨⟨hsel, hn⟩, hs⟩, hc⟩, hlex⟩ := hB2
  have hsz : l.toArray.size = l.length := List.size_toArray
  have htl : (l.take n).length = n := by rw [List.length_take]; omega
  have inv0 : HeadInv .any l.toArray n (Array.replicate l.toArray.size false) :=
    ⟨by simp, fun j oj _ hl => (by rw [getD_replicate_false] at hl; cases hl), fun t _ ht => getD_in (by simpa using ht) (getD_replicate_false _ _)⟩
  have H := headQ_lex (md := .any) (g := l.toArray.size - n) (Lq := fun a' => ∀ w', (∃ m, w' = w.drewN m) → wpList P l.toArray Q (l.drop n) a' w') hsel hs hc hn (l.take n) 0 _ a
    (fun j hj => by rw [htl] at hj; simp [hj]) (by rw [htl]; omega) inv0 (by rw [htl]; exact hlex) h
  refine wp_region_any hm ?_
  have hdl : (l.drop n).length = l.toArray.size - n := by rw [List.length_drop, hsz]
  have := headQ_any (g := l.toArray.size - n) (Q' := Q) (fun listed a' w' hw' hL => by
    have := wpAny_of_seq (md := .any) (Q' := Q) (l.drop n) n listed a' w' (fun j => by simp [List.getElem?_drop]) (by rw [hdl]; exact hL.1) (hL.2 w' hw')
    rwa [hdl] at this) _ _ _ { w with drawn := w.drawn + 1 } ⟨1, rfl⟩ H
  rw [htl, show n + (l.toArray.size - n) = l.toArray.size by omega] at this
  exact this
def closedB (md : Region.Mode) (ops : Array Oper) (listed : Array Bool) : Bool :=
  (List.range ops.size).all fun j => match ops[j]? with | some o => !listed.getD j false || o.after.all (fun e => !Region.binds md e || listed.getD e.on false) | none => true
def sinkB2 (md : Region.Mode) (ops : Array Oper) (n : Nat) (listed : Array Bool) : Bool :=
  (List.range n).all fun i => listed.getD i false || (List.range (n + 1)).any fun j => decide (i < j) && Region.waitsFor md ops j i
def lexI (md : Region.Mode) (ops : Array Oper) (n g : Nat) : List Nat → Array Bool → Bool
  | [], listed => Region.seqB md ops g n listed
  | k :: js, listed => (Region.ready md ops listed).contains k && (Region.free md ops listed k && (decide (k < n) && lexI md ops n g js (listed.setIfInBounds k true)))
structure Inv2 (md : Region.Mode) (ops : Array Oper) (n : Nat) (l0 listed : Array Bool) : Prop where
  size : listed.size = ops.size
  closed : ∀ j o, ops[j]? = some o → listed.getD j false = true → ∀ e ∈ o.after, Region.binds md e = true → listed.getD e.on false = true
  tail : ∀ t, n ≤ t → t < ops.size → listed.getD t true = false
  first : ∀ j, l0.getD j false = true → listed.getD j false = true
theorem Inv2.set {n i : Nat} {l0 listed : Array Bool} (inv : Inv2 md ops n l0 listed) (hi : i ∈ Region.ready md ops listed) (hin : i < n) : Inv2 md ops n l0 (listed.setIfInBounds i true) := by
  obtain ⟨_, oi, hoi, hall⟩ := mem_ready.1 hi
  refine ⟨by rw [Array.size_setIfInBounds]; exact inv.size, fun j oj hj hl e he hb => ?_, fun t ht ht' => by rw [getD_set_ne true (by omega)]; exact inv.tail t ht ht', fun j hj => getD_set_true (inv.first j hj)⟩
  rcases Nat.decEq i j with hij | hij
  · rw [getD_set_ne false hij] at hl
    exact getD_set_true (inv.closed j oj hj hl e he hb)
  · cases hij
    cases hoi.symm.trans hj
    exact getD_set_true (hall e he hb)
theorem tail_waits2 {n : Nat} {l0 listed : Array Bool} (hs : sinkB2 md ops n l0 = true) (hc : Region.chainB md ops n = true) (hn : n < ops.size) (inv : Inv2 md ops n l0 listed) :
    ∀ (d i : Nat), n - i = d → i < n → listed.getD i true = false → ∀ t, n ≤ t → t ∉ Region.ready md ops listed := by
  intro d
  induction d using Nat.strongRecOn with
  | _ d ih =>
    intro i hd hi hun t ht hr
    obtain ⟨_, ot, hot, hall⟩ := mem_ready.1 hr
    have htlt : t < ops.size := (Array.getElem?_eq_some_iff.1 hot).1
    have hiF := getD_both hun
    rcases Nat.decEq t n with htn | htn
    · rcases Bool.or_eq_true _ _ ▸ List.all_eq_true.1 hc t (List.mem_range.2 htlt) with h1 | h1
      · exact absurd (of_decide_eq_true h1) (by omega)
      · obtain ⟨o', ho', e, he, hb, hon⟩ := Region.waitsFor_spec h1
        cases ho'.symm.trans hot
        have := hall e he hb
        rw [hon, getD_both (inv.tail (t - 1) (by omega) (by omega))] at this
        cases this
    · rcases Bool.or_eq_true _ _ ▸ List.all_eq_true.1 hs i (List.mem_range.2 hi) with h1 | h1
      · rw [inv.first i h1] at hiF; cases hiF
      · obtain ⟨j, hj, hj2⟩ := List.any_eq_true.1 h1
        rw [Bool.and_eq_true, decide_eq_true_eq] at hj2
        obtain ⟨oj, hoj, e, he, hb, hon⟩ := Region.waitsFor_spec hj2.2
        have hjle : j ≤ n := by have := List.mem_range.1 hj; omega
        rcases Nat.decEq j n with hjn | hjn
        · cases hl : listed.getD j false with
          | true =>
            have h2 := inv.closed j oj hoj hl e he hb
            rw [hon, hiF] at h2
            cases h2
          | false => exact ih (n - j) (by omega) j rfl (by omega) (getD_in (by rw [inv.size]; omega) hl) t ht hr
        · cases hjn.trans htn.symm
          cases hoj.symm.trans hot
          have h2 := hall e he hb
          rw [hon, hiF] at h2
          cases h2
theorem headQ_first3 {n i : Nat} {l0 : Array Bool} {o : Oper} {v : Value} {L : Array Bool → Act → Prop} (hi : ops[i]? = some o) (hsel : ∀ (j : Nat) (o : Oper) cs b, ops[j]? = some o → o.op ≠ .select cs b)
    (hs : sinkB2 md ops n l0 = true) (hc : Region.chainB md ops n = true) (hn : n < ops.size) (hin : i < n) (hend : ∀ listed a, L listed a → ∀ j ∈ Region.ready md ops listed, n ≤ j) (f : Nat) :
    ∀ (listed : Array Bool) (a : Act), Inv2 md ops n l0 listed → (∀ j o', ops[j]? = some o' → j ≠ i → listed.getD j true = false → (∀ e ∈ o'.after, Region.binds md e = true → e.on ≠ i) → o.apart ops o' = true) →
      i ∈ Region.ready md ops listed → YieldsIn P ops C o v a → headQ P md ops C n L f (listed.setIfInBounds i true) (a.put o.dst v) → headQ P md ops C n L (f + 1) listed a := by
  have below : ∀ listed, Inv2 md ops n l0 listed → i ∈ Region.ready md ops listed → ∀ j, j ∈ Region.ready md ops listed → j < n := fun listed inv hr j hj =>
    Nat.lt_of_not_le fun hle => tail_waits2 hs hc hn inv _ i rfl hin (mem_ready.1 hr).1 j hle hj
  induction f with
  | zero =>
    intro listed a inv _ hr hy H
    refine ⟨⟨i, hr⟩, fun j hj => ⟨below _ inv hr j hj, ?_⟩⟩
    rcases Nat.decEq j i with hji | hji
    · exact absurd (hend _ _ H j (ready_mono hj hji)) (Nat.not_le.2 (below _ inv hr j hj))
    · rw [hji]; exact hy.qOp hi H
  | succ f ih =>
    intro listed a inv hfree hr hy H
    refine ⟨⟨i, hr⟩, fun j hj => ⟨below _ inv hr j hj, ?_⟩⟩
    rcases Nat.decEq j i with hji | hji
    · obtain ⟨hun, o', ho', hafter⟩ := mem_ready.1 hj
      have hfalse := getD_both (mem_ready.1 hr).1
      have hapart := hfree j o' ho' hji hun fun e he hb heq => by
        have := hafter e he hb
        rw [heq, hfalse] at this
        cases this
      refine qOp_mono (fun a' ⟨hy', hH⟩ => ih _ a' (inv.set hj (below _ inv hr j hj)) (fun k ok hk hki hu hno => hfree k ok hk hki ?_ hno) (ready_mono hr (Ne.symm hji)) hy' ?_)
        (qOp_put ho' hapart (fun cs b => hsel i o cs b hi) (fun cs b => hsel j o' cs b ho') hy (H.2 j (ready_mono hj hji)).2)
      · rcases Nat.decEq j k with hjk | hjk
        · rwa [getD_set_ne true hjk] at hu
        · rw [← hjk]; exact hun
      · rw [Array.setIfInBounds_comm _ _ hji]; exact hH
    · rw [hji]; exact hy.qOp hi H
theorem headQ_lexI {n g : Nat} {l0 : Array Bool} {Lq : Act → Prop} (hsel : Region.noSelect ops = true) (hs : sinkB2 md ops n l0 = true) (hc : Region.chainB md ops n = true) (hn : n < ops.size) :
    ∀ (js : List Nat) (os : List Oper) (listed : Array Bool) (a : Act), js.map (fun j => ops[j]?) = os.map some → Inv2 md ops n l0 listed → lexI md ops n g js listed = true → wpQuiet P ops C Lq os a →
    headQ P md ops C n (fun listed' a' => Region.seqB md ops g n listed' = true ∧ Lq a') js.length listed a := by
  intro js
  induction js with
  | nil =>
    intro os listed a ho _ hB h
    cases os with
    | nil => exact ⟨hB, h⟩
    | cons o os => cases ho
  | cons k js ih =>
    intro os listed a ho inv hB h
    cases os with
    | nil => cases ho
    | cons o os =>
      injection ho with h0 ho
      have hB2 : ((Region.ready md ops listed).contains k && (Region.free md ops listed k && (decide (k < n) && lexI md ops n g js (listed.setIfInBounds k true)))) = true := hB
      rw [Bool.and_eq_true, Bool.and_eq_true, Bool.and_eq_true, decide_eq_true_eq] at hB2
      obtain ⟨b1, b2, b3, b4⟩ := hB2
      have hr : k ∈ Region.ready md ops listed := by simpa using b1
      obtain ⟨v, hy, hK⟩ := yieldsIn_of_qOp (P := P) (C := C) (K := wpQuiet P ops C Lq os) h0 (by unfold qOp; simp only [h0]; exact h)
      exact headQ_first3 h0 (Region.noSelect_spec hsel) hs hc hn b3 (fun listed' a' (hL : Region.seqB md ops g n listed' = true ∧ Lq a') => seqB_ready hL.1) js.length listed a inv (Region.free_spec h0 b2) hr hy (ih os _ _ ho (inv.set hr b3) b4 hK)
theorem closedB_spec {listed : Array Bool} (h : closedB md ops listed = true) : ∀ j o, ops[j]? = some o → listed.getD j false = true → ∀ e ∈ o.after, Region.binds md e = true → listed.getD e.on false = true := by
  intro j o hj hl e he hb
  have hlt : j < ops.size := (Array.getElem?_eq_some_iff.1 hj).1
  have h1 := List.all_eq_true.1 h j (List.mem_range.2 hlt)
  rw [hj] at h1
  have h2 : (!listed.getD j false || o.after.all (fun e => !Region.binds md e || listed.getD e.on false)) = true := h1
  rw [hl, Bool.not_true, Bool.false_or] at h2
  have h3 := Array.all_eq_true'.1 h2 e he
  rw [hb, Bool.not_true, Bool.false_or] at h3
  exact h3
def tailB (ops : Array Oper) (n : Nat) (js : List Nat) (l0 : Array Bool) : Bool :=
  Region.noSelect ops && (decide (n < ops.size) && (sinkB2 .any ops n l0 && (Region.chainB .any ops n && (lexI .any ops n (ops.size - n) js l0 && (closedB .any ops l0 && (decide (l0.size = ops.size) && (List.range ops.size).all fun t => decide (t < n) || !l0.getD t true))))))
theorem wpAny_quiet_tail {Q : Exit → Act → World → Prop} {a : Act} {w : World} {l : List Oper} (n : Nat) (js : List Nat) (pk : List Oper → List Oper) (l0 : Array Bool) (f : Nat) (hos : js.map (fun j => l.toArray[j]?) = (pk l).map some) (hf : f = js.length + (l.drop n).length) (hB : tailB l.toArray n js l0 = true)
    (h : wpQuiet P l.toArray (fun w' => ∃ m, w' = w.drewN m) (fun a' => ∀ w', (∃ m, w' = w.drewN m) → wpList P l.toArray Q (l.drop n) a' w') (pk l) a) : wpAny P .any l.toArray Q f l0 a w := by
  subst hf
  unfold tailB at hB
  simp only [Bool.and_eq_true, decide_eq_true_eq] at hB
  obtain ⟨hsel, hn, hs, hc, hlex, hcl, hsz, htl⟩ := hB
  have inv0 : Inv2 .any l.toArray n l0 l0 := ⟨hsz, closedB_spec hcl, fun t ht htlt => by
    rcases Bool.or_eq_true _ _ ▸ List.all_eq_true.1 htl t (List.mem_range.2 htlt) with h1 | h1
    · exact absurd (of_decide_eq_true h1) (by omega)
    · simpa using h1, fun _ h => h⟩
  have hdl : (l.drop n).length = l.toArray.size - n := by rw [List.length_drop, List.size_toArray]
  have H := headQ_lexI (md := .any) (P := P) (g := l.toArray.size - n) (Lq := fun a' => ∀ w', (∃ m, w' = w.drewN m) → wpList P l.toArray Q (l.drop n) a' w') hsel hs hc hn js (pk l) l0 a hos inv0 hlex h
  exact headQ_any (g := (l.drop n).length) (Q' := Q) (fun listed a' w' hw' hL => wpAny_of_seq (md := .any) (Q' := Q) (l.drop n) n listed a' w' (fun j => by simp [List.getElem?_drop]) (by rw [hdl]; exact hL.1) (hL.2 w' hw')) _ _ _ w ⟨0, rfl⟩ H
end
end Go.Proofs.YtbpoapfkeinjnaaGreatDoor.Qt
namespace Go.Proofs.YtbpoapfkeinjnaaGreatDoor.Ld
open Go.RowKit Go.Proofs.YtbpoapfkeinjnaaGreatDoorW.PrintWords Go.Proofs.YtbpoapfkeinjnaaGreatDoorW.PrintLast Go.Proofs.YtbpoapfkeinjnaaGreatDoorW.PrintMore
set_option linter.unusedVariables false
set_option linter.unusedSimpArgs false
attribute [local go_sem] max2_int min2_int max_two min_two
def TFrame (g : Nat) (cv : Value) (p : Int) (a : Act) : Prop := ∃ u : Nat → Value, a = { tmps := #[.pointer (some ⟨g, 0, none⟩), u 1, u 2, u 3, u 4, u 5, cv, u 7, .int .i64 p, u 9, u 10, u 11, u 12, u 13, u 14, u 15, u 16, u 17, u 18, u 19, u 20, u 21, u 22, u 23, u 24, u 25, u 26, u 27, u 28, u 29, u 30, u 31, u 32, u 33, u 34, u 35, u 36, u 37, u 38, u 39, u 40, u 41, u 42, u 43, u 44, u 45, u 46, u 47, u 48, u 49, u 50, u 51, u 52, u 53, u 54, u 55, u 56, u 57, u 58, u 59, u 60, u 61, u 62, u 63, u 64, u 65, u 66, u 67, u 68, u 69, u 70, u 71, u 72, u 73, u 74, u 75, u 76, u 77, u 78, u 79, u 80, u 81, u 82, u 83, u 84, u 85, u 86, u 87, u 88, u 89, u 90, u 91, u 92, u 93, u 94, u 95, u 96, u 97, u 98, u 99, u 100, u 101, u 102, u 103, u 104, u 105, u 106, u 107, u 108, u 109, u 110, u 111, u 112, u 113, u 114, u 115, u 116, u 117, u 118, u 119, u 120, u 121, u 122, u 123, u 124], defers := [] }
set_option maxRecDepth 100000 in
theorem TFrame_mk (g : Nat) (cv : Value) (p : Int) (u1 u2 u3 u4 u5 u7 u9 u10 u11 u12 u13 u14 u15 u16 u17 u18 u19 u20 u21 u22 u23 u24 u25 u26 u27 u28 u29 u30 u31 u32 u33 u34 u35 u36 u37 u38 u39 u40 u41 u42 u43 u44 u45 u46 u47 u48 u49 u50 u51 u52 u53 u54 u55 u56 u57 u58 u59 u60 u61 u62 u63 u64 u65 u66 u67 u68 u69 u70 u71 u72 u73 u74 u75 u76 u77 u78 u79 u80 u81 u82 u83 u84 u85 u86 u87 u88 u89 u90 u91 u92 u93 u94 u95 u96 u97 u98 u99 u100 u101 u102 u103 u104 u105 u106 u107 u108 u109 u110 u111 u112 u113 u114 u115 u116 u117 u118 u119 u120 u121 u122 u123 u124 : Value) : TFrame g cv p { tmps := #[.pointer (some ⟨g, 0, none⟩), u1, u2, u3, u4, u5, cv, u7, .int .i64 p, u9, u10, u11, u12, u13, u14, u15, u16, u17, u18, u19, u20, u21, u22, u23, u24, u25, u26, u27, u28, u29, u30, u31, u32, u33, u34, u35, u36, u37, u38, u39, u40, u41, u42, u43, u44, u45, u46, u47, u48, u49, u50, u51, u52, u53, u54, u55, u56, u57, u58, u59, u60, u61, u62, u63, u64, u65, u66, u67, u68, u69, u70, u71, u72, u73, u74, u75, u76, u77, u78, u79, u80, u81, u82, u83, u84, u85, u86, u87, u88, u89, u90, u91, u92, u93, u94, u95, u96, u97, u98, u99, u100, u101, u102, u103, u104, u105, u106, u107, u108, u109, u110, u111, u112, u113, u114, u115, u116, u117, u118, u119, u120, u121, u122, u123, u124], defers := [] } := ⟨fun k => #[undef, u1, u2, u3, u4, u5, undef, u7, undef, u9, u10, u11, u12, u13, u14, u15, u16, u17, u18, u19, u20, u21, u22, u23, u24, u25, u26, u27, u28, u29, u30, u31, u32, u33, u34, u35, u36, u37, u38, u39, u40, u41, u42, u43, u44, u45, u46, u47, u48, u49, u50, u51, u52, u53, u54, u55, u56, u57, u58, u59, u60, u61, u62, u63, u64, u65, u66, u67, u68, u69, u70, u71, u72, u73, u74, u75, u76, u77, u78, u79, u80, u81, u82, u83, u84, u85, u86, u87, u88, u89, u90, u91, u92, u93, u94, u95, u96, u97, u98, u99, u100, u101, u102, u103, u104, u105, u106, u107, u108, u109, u110, u111, u112, u113, u114, u115, u116, u117, u118, u119, u120, u121, u122, u123, u124].getD k undef, rfl⟩
structure TLab (S T : Nat → Prop) (g : Nat) (t : Tur) (cs : List Int) (b c : Nat) (w0 : World) (n : Nat) (a : Act) (w : World) : Prop where
  fr : ∃ p : Int, 0 ≤ p ∧ p + n ≤ 2000000000000 ∧ TFrame g (.slice (some ⟨b, 0, none⟩) t.l.length c) p a
  st : ∃ t1, TurAt S w g t1 ∧ Moves cs t t1 ∧ TurInv t1 ∧ t1.l.length = t.l.length ∧ Meas cs t1 n
  row : RowAt T w 3 1 (.slice (some ⟨b, 0, none⟩) t.l.length c) t.l.length (ints cs)
  chg : Chg S w0 w
def TakePost (S : Nat → Prop) (g : Nat) (t : Tur) (cs : List Int) (w : World) (e : Ending) (w' : World) : Prop :=
  ∃ t1, Moves cs t t1 ∧ TurInv t1 ∧ t1.l.length = t.l.length ∧ CanTake cs t1 ∧ e = .returned (.tuple #[.int .i64 (mAt t1).id, .bool true]) ∧ TurAt S w' g { t1 with l := t1.l.set t1.at_.toNat { mAt t1 with credit := (mAt t1).credit - cAt cs t1 } } ∧ Chg S w w'
theorem TurP.facts {S : Nat → Prop} {w : World} {g : Nat} {t : Tur} {v : Value} {ms : List Nat} (h : TurP S w g t v ms) (k : Nat) (hk : k < t.l.length) : ∃ ad c, v = .slice (some ad) t.l.length c ∧ w.cell? ⟨g, 1, none⟩ = some (.slice (some ad) t.l.length c) ∧ w.cell? (ad.add k) = some (.pointer (some ⟨nth ms k, 0, none⟩)) ∧
    w.cell? ⟨nth ms k, 0, none⟩ = some (.int .i64 (mbs t.l k).id) ∧ w.cell? ⟨nth ms k, 2, none⟩ = some (.int .i64 (mbs t.l k).credit) ∧ w.frozen? ⟨nth ms k, 2, none⟩ = false ∧ w.cell? ⟨g, 2, none⟩ = some (.int .i64 t.at_) ∧ w.frozen? ⟨g, 2, none⟩ = false := by
  obtain ⟨A, c, rfl, his⟩ := h.is
  obtain ⟨ad, rfl, hd⟩ := his.row.at_ k hk
  have hb := h.fam.all k hk
  exact ⟨ad, c, rfl, his.c1, hd, MbAt.c0 hb, MbAt.c2 hb, blk_frozen hb 2, his.c2, blk_frozen his.blk 2⟩
theorem TurAt.facts {S : Nat → Prop} {w : World} {g : Nat} {t : Tur} (h : TurAt S w g t) (N k : Nat) (hN : t.l.length = N) (hk : k < N) : ∃ ms ad c, TurP S w g t (.slice (some ad) N c) ms ∧ w.cell? ⟨g, 1, none⟩ = some (.slice (some ad) N c) ∧ w.cell? (ad.add k) = some (.pointer (some ⟨nth ms k, 0, none⟩)) ∧
    w.cell? ⟨nth ms k, 0, none⟩ = some (.int .i64 (mbs t.l k).id) ∧ w.cell? ⟨nth ms k, 2, none⟩ = some (.int .i64 (mbs t.l k).credit) ∧ w.frozen? ⟨nth ms k, 2, none⟩ = false ∧ w.cell? ⟨g, 2, none⟩ = some (.int .i64 t.at_) ∧ w.frozen? ⟨g, 2, none⟩ = false := by
  subst hN
  obtain ⟨v, ms, hp⟩ := h
  obtain ⟨ad, c, rfl, h⟩ := hp.facts k hk
  exact ⟨ms, ad, c, hp, h⟩
theorem zeroAt_ok {cs : List Int} {t : Tur} (h : TurInv t) : TurOk (zeroAt cs t) := by
  have hm := zeroAt_mb cs t h.a.1
  refine ⟨by rw [zeroAt_q]; exact h.q, fun i hi => ?_, fun i hi => ?_⟩
  all_goals rw [zeroAt_len] at hi
  all_goals rw [hm]
  · split <;> exact h.w i hi
  · have := h.c i hi
    split
    · show 0 ≤ (0 : Int) ∧ (0 : Int) ≤ 1000000000; omega
    · omega
theorem skipL_zero (t : Tur) (cs : List Int) : skipL t cs 0 = t.l := by
  apply List.ext_getElem (by rw [skipL_len])
  intro i h1 h2
  simp [skipL, mbs, List.getD_eq_getElem?_getD, List.getElem?_eq_getElem h2]
theorem skipped_zero (t : Tur) (cs : List Int) : skipped cs 0 t = t := by unfold skipped; rw [skipL_zero]
theorem TurP.moved {S : Nat → Prop} {w : World} {g : Nat} {t : Tur} {v : Value} {ms : List Nat} (h : TurP S w g t v ms) (n : Int) : TurP S (w.setCell ⟨g, 2, none⟩ (.int .i64 n)) g { t with at_ := n } v ms := by
  refine ⟨blk_put h.blk 2 _ rfl, ⟨own_setCell h.row.own (own_ne h.row.own h.blk (by decide)) _, h.row.fp⟩, ⟨h.fam.len, h.fam.dup, fun i hi => ?_, h.fam.fp⟩, h.fg⟩
  have hb := h.fam.all i hi
  exact blk_far hb (blk_ne hb h.blk (by decide)) _

set_option maxHeartbeats 8000000 in
set_option maxRecDepth 100000 in
theorem Take_some (S : Nat → Prop) (g : Nat) (t : Tur) (ws : List Wt) (A : Option Addr) (c0 : Nat) (w : World) (hd : ∀ k, S k → k < w.heap.size) (ha : TurAt S w g t) (hinv0 : TurInv t) (T0 : Nat → Prop) (hw : RowAt T0 w 112 2 (.slice A ws.length c0) ws.length (flat encWt ws)) (hm : ws.length ≤ 900) (cs : List Int) (hcs : costsF t.l ws = (cs, true))
    (hcb : ∀ i, i < t.l.length → 0 ≤ cs.getD i 0 ∧ cs.getD i 0 ≤ 1048576) (hpos : ∃ i, i < t.l.length ∧ 0 < cs.getD i 0) :
    Calls Tryz.prog 56 #[.pointer (some ⟨g, 0, none⟩), .slice A ws.length c0] w (TakePost S g t cs w) := by
  have HA := Aside0.mk ha
  have HW := Aside0.mk hw
  have HS := Aside0.mk hcs
  have HCB0 := Aside0.mk hcb
  have hn := hinv0.n
  obtain ⟨i0, hi0, hpos0⟩ := hpos
  obtain ⟨n0, hn0, hms0⟩ := meas_first hinv0 hcb i0 hi0 hpos0
  have HMS0 := Aside0.mk hms0
  have HINV0 := Aside0.mk hinv0
  have hlen0 := Aside0.mk (show t.l ≠ [] from fun e => by rw [e] at hi0; simp at hi0)
  obtain ⟨T, hT⟩ : ∃ T : Nat → Prop, T = fun k => w.heap.size ≤ k := ⟨_, rfl⟩
  have hST := Aside0.mk (show ∀ k, T k → ¬ S k from fun k hk hs => by rw [hT] at hk; have := hd k hs; have : w.heap.size ≤ k := hk; omega)
  have HD := Aside0.mk hd
  have HT := Aside0.mk hT
  clear hcs hcb hw hms0 hinv0 hd hT ha hpos0 hi0
  go_enter Tryz.func56, Tryz.ntmps56
  go_wp2
  refine wp_scope_ghost 0 (fun n a w' => ∃ b, TLab S T g t cs b t.l.length w n a w') rfl ?pass ?first
  case first =>
    intro hpass
    have HPASS := Aside0.mk hpass
    clear hpass
    go_wp2_with (go_at_call 104; (with_reducible refine (costs_calls S T0 g t ws A c0 _ HA.out HW.out hn hm).mono ?_); rintro e w1 ⟨b, rfl, hr1, hb1⟩; rw [HS.out] at hr1 ⊢; have HR1 := Aside0.mk hr1; have HB1 := Aside0.mk hb1; clear hr1 hb1)
    go_step3
    rename_i hK
    refine hK _ _ (HPASS.out n0 _ _ ⟨b, ⟨0, by omega, by omega, ?_⟩, ⟨t, HA.out.keep (Keep.of_below HB1.out), Moves.refl t, HINV0.out, rfl, HMS0.out⟩, by rw [HT.out]; exact HR1.out, Chg.of_below HB1.out S⟩)
    exact TFrame_mk ..
  intro n a w1 ⟨b, h⟩
  obtain ⟨⟨p, hp0, hpn, hfr⟩, ⟨t1, ⟨v, ms, hp⟩, hmv, hinv, hl1, hms⟩, hrow, hchg⟩ := h
  obtain ⟨u, rfl⟩ := hfr
  have HP := Aside0.mk hp
  have HMV := Aside0.mk hmv
  have HINV := Aside0.mk hinv
  have HMS := Aside0.mk hms
  have HROW := Aside0.mk hrow
  have HCHG := Aside0.mk hchg
  have HL1 := Aside0.mk hl1
  have ha := hinv.a
  obtain ⟨k, hk⟩ : ∃ k : Nat, t1.at_ = (k : Int) := ⟨t1.at_.toNat, by omega⟩
  have hkl : k < t1.l.length := by
    rcases ha.2 with h | ⟨_, h⟩
    · omega
    · rw [h] at hl1; exact absurd (List.eq_nil_of_length_eq_zero hl1.symm) hlen0.out
  obtain ⟨ad, c1, rfl, c1_, d0, d1, d2, f2, c2_, g2⟩ := hp.facts k hkl
  rw [hk] at c2_
  have hc := (hrow.int_at (k : Int) (by omega) (by omega)).1
  rw [show rd cs (k : Int) = cs.getD k 0 from rfl, Int.toNat_natCast] at hc
  obtain ⟨q, hq⟩ : ∃ q, cs.getD k 0 = q := ⟨_, rfl⟩
  obtain ⟨C, hC⟩ : ∃ C, (mbs t1.l k).credit = C := ⟨_, rfl⟩
  obtain ⟨I, hI⟩ : ∃ I, (mbs t1.l k).id = I := ⟨_, rfl⟩
  have hqb := HCB0.out k (by omega)
  have hCb := hinv.c k hkl
  rw [hq] at hc hqb
  rw [hC] at d2 hCb
  rw [hI] at d1
  have HK := Aside0.mk hk
  have HQ := Aside0.mk hq
  have HC := Aside0.mk hC
  have HI := Aside0.mk hI
  rw [hl1] at hkl c1_
  have p1 : (0 ≤ (k : Int)) = True := eq_true (by omega)
  have p2 : ((k : Int) < (t.l.length : Int)) = True := eq_true (by omega)
  clear hp hmv hinv hms hrow hchg hl1 ha hk hq hC hI
  have hCl : 0 ≤ C ∧ C ≤ 105906176 := ⟨hCb.1, hCb.2.2⟩
  clear hCb
  by_cases hcan : 0 < q ∧ q ≤ C
  · obtain ⟨hq0, hqC⟩ := hcan
    go_wp2
    go_quiet (fail)
    go_wp2
    simp only [Exit.jump]
    go_ret2
    have hw2 := HP.out.keep (w' := w1.drewN nq) (fun k _ _ => rfl)
    have hst := hw2.credit k (by rw [HL1.out]; exact hkl) (C - q)
    have hm : mAt t1 = mbs t1.l k := by unfold mAt; rw [HK.out]; rfl
    have hcc : cAt cs t1 = q := by unfold cAt; rw [HK.out, ← HQ.out]; rfl
    refine ⟨t1, HMV.out, HINV.out, HL1.out, ⟨by rw [hcc]; exact hq0, by rw [hcc, hm, HC.out]; exact hqC⟩, by rw [hm, HI.out]; rfl, ?_, (HCHG.out.drewN _).set hst.2 _ _⟩
    rw [hm, hcc, HC.out, show t1.at_.toNat = k by rw [HK.out]; rfl]
    exact ⟨_, _, hst.1⟩
  · have hno : ¬ CanTake cs t1 := by
      intro h
      have hm : mAt t1 = mbs t1.l k := by unfold mAt; rw [HK.out]; rfl
      have hcc : cAt cs t1 = q := by unfold cAt; rw [HK.out, ← HQ.out]; rfl
      unfold CanTake at h
      rw [hm, hcc, HC.out] at h
      exact hcan h
    have HNO := Aside0.mk hno
    clear hno
    go_wp2
    go_quiet (fail)
    have HP1 := Aside0.mk (HP.out.keep (w' := w1.drewN nq) (fun k _ _ => rfl))
    have HROW1 := Aside0.mk (HROW.out.keep (w' := w1.drewN nq) (fun k _ _ => rfl))
    have HCHG1 := Aside0.mk (HCHG.out.drewN nq)
    have hq3 : q = 0 ∨ (0 < q ∧ C < q) := by omega
    have HQ3 := Aside0.mk hq3
    clear hcan hq3
    obtain ⟨w2, hw2⟩ : ∃ w2, w2 = w1.drewN nq := ⟨_, rfl⟩
    have hd2 := Aside0.mk (show w1.drewN nq = w2 from hw2.symm)
    rw [← hw2] at HP1 HROW1 HCHG1 ⊢
    have m0 : w2.cell? ⟨nth ms k, 2, none⟩ = some (.int .i64 C) := by rw [hw2]; exact d2
    have m1 : w2.frozen? ⟨nth ms k, 2, none⟩ = false := by rw [hw2]; exact f2
    clear hw2 hc d0 d1 d2 f2 c1_ c2_ g2
    have hno2 : decide (0 < q) = false ∨ (decide (0 < q) = true ∧ decide (q ≤ C) = false) := by
      rcases HQ3.out with h | h
      · exact .inl (decide_eq_false (by omega))
      · exact .inr ⟨decide_eq_true h.1, decide_eq_false (by omega)⟩
    have HN2 := Aside0.mk hno2
    clear hno2
    go_upto_region 6 with (fail)
    go_cut [45] (fun v45 wc => v45 = .bool false ∧ wc = w2)
    case first =>
      rcases HN2.out with h1 | ⟨h1, h2⟩
      all_goals
        go_wp2
        go_meet
        exact ⟨rfl, rfl⟩
    case rest =>
    obtain ⟨rfl, rfl⟩ := hcut
    obtain ⟨zb, hzb⟩ : ∃ zb, (q == 0) = zb := ⟨_, rfl⟩
    have HZB := Aside0.mk hzb
    go_upto_if 59 with (fail)
    clear hzb
    go_cut [] (fun wc => Aside0 (TurAt S wc g (zeroAt cs t1) ∧ Chg S w wc ∧ RowAt T wc 3 1 (.slice (some ⟨b, 0, none⟩) t.l.length t.l.length) t.l.length (ints cs)))
    case first =>
      have hcc : cAt cs t1 = q := by unfold cAt; rw [HK.out, ← HQ.out]; rfl
      have hkn : t1.at_.toNat = k := by rw [HK.out]; rfl
      have HCC := Aside0.mk hcc
      have HKN := Aside0.mk hkn
      clear hcc hkn
      cases zb
      · go_wp2
        go_meet
        refine ⟨⟨?_, HCHG1.out, HROW1.out⟩⟩
        unfold zeroAt
        rw [if_neg (by rw [HCC.out]; have := HZB.out; simpa using this)]
        exact ⟨_, _, HP1.out⟩
      · go_wp2
        go_meet
        have hst := HP1.out.credit k (by rw [HL1.out]; exact hkl) 0
        refine ⟨⟨?_, HCHG1.out.set hst.2 _ _, HROW1.out.keep (Keep.of_chg ((Chg.refl S _).set hst.2 _ _) hST.out)⟩⟩
        unfold zeroAt
        rw [if_pos (by rw [HCC.out]; have := HZB.out; simpa using this), HKN.out]
        unfold mAt
        rw [HKN.out]
        exact ⟨_, _, hst.1⟩
    case rest =>
    obtain ⟨hz, hcz, hrz⟩ := hcut.out
    have HZ := Aside0.mk hz
    have HCZ := Aside0.mk hcz
    have HRZ := Aside0.mk hrz
    clear hcut hz hcz hrz HP1 HCHG1 HROW1 m0 m1 HP HROW HCHG
    obtain ⟨fl, hfl⟩ : ∃ fl, ((p + 1) == (t.l.length : Int)) = fl := ⟨_, rfl⟩
    have HFL := Aside0.mk hfl
    have hp1 : p + 1 ≤ 2000000000001 := by omega
    obtain ⟨ms2, ad2, c2, _, y1, _⟩ := TurAt.facts HZ.out t.l.length k (by rw [zeroAt_len, HL1.out]) hkl
    go_upto_if 71 with (fail)
    clear hfl hp1
    go_cut [] (fun wc3 => Aside0 (∃ R : Int, 0 ≤ R ∧ R ≤ 1048576 ∧ (∀ i, i < t1.l.length → 0 < cs.getD i 0 → R = 0 ∨ (mbs (zeroAt cs t1).l i).credit + R * gainI t1 i < cs.getD i 0) ∧ TurAt S wc3 g (skipped cs R (zeroAt cs t1)) ∧ Chg S w wc3 ∧ RowAt T wc3 3 1 (.slice (some ⟨b, 0, none⟩) t.l.length t.l.length) t.l.length (ints cs)))
    case first =>
      have hzl := Aside0.mk (show (zeroAt cs t1).l.length = t.l.length by rw [zeroAt_len, HL1.out])
      cases fl
      · go_wp2
        go_meet
        exact ⟨⟨0, by omega, by omega, fun i _ _ => .inl rfl, by rw [skipped_zero]; exact HZ.out, HCZ.out, HRZ.out⟩⟩
      · go_wp2_with (go_at_call 105; (with_reducible refine (hzl.out ▸ skip_calls S T hST.out g (zeroAt cs t1) (zeroAt_ok HINV.out) cs b t.l.length _ HZ.out (hzl.out.symm ▸ HRZ.out) (by rw [hzl.out]; exact hn) (by rw [hzl.out]; exact HCB0.out)).mono ?_); rintro e w5 ⟨rfl, h5, hc5⟩; have H5 := Aside0.mk h5; have HC5 := Aside0.mk hc5; clear h5 hc5)
        go_meet
        obtain ⟨R, hR0, hR1, hR2, hR3⟩ := H5.out
        have hg : ∀ i, gainI (zeroAt cs t1) i = gainI t1 i := fun i => by
          unfold gainI; rw [zeroAt_q, zeroAt_mb cs t1 HINV.out.a.1]; split <;> rfl
        exact ⟨⟨R, hR0, hR1, fun i hi hc => by rw [← hg]; exact hR2 i (by rw [← HL1.out]; exact hi) hc, hR3, HCZ.out.trans HC5.out, HRZ.out.keep (Keep.of_chg HC5.out hST.out)⟩⟩
    case rest =>
    obtain ⟨R, hR0, hR1, hR2, h3, hc3, hr3⟩ := hcut.out
    have H3 := Aside0.mk h3
    have HC3 := Aside0.mk hc3
    have HR3 := Aside0.mk hr3
    have HR2 := Aside0.mk hR2
    clear hcut h3 hc3 hr3 hR2 HZ HCZ HRZ y1
    have hl3 := Aside0.mk (show (skipped cs R (zeroAt cs t1)).l.length = t.l.length by show (skipL _ _ _).length = _; rw [skipL_len, zeroAt_len, HL1.out])
    have ha3 := Aside0.mk (show (skipped cs R (zeroAt cs t1)).at_ = (k : Int) by show (zeroAt cs t1).at_ = _; rw [zeroAt_at, HK.out])
    obtain ⟨ms3, ad3, c3, hp3, y1, y2, y3, y4, y5, y6, y7⟩ := TurAt.facts H3.out t.l.length k hl3.out hkl
    rw [ha3.out] at y6
    have HP3 := Aside0.mk hp3
    clear y2 y3 y4 y5 hp3
    obtain ⟨kn, hkn⟩ : ∃ kn : Int, ((k : Int) + 1).tmod (t.l.length : Int) = kn := ⟨_, rfl⟩
    have e1 : IntKind.i64.wrap ((k : Int) + 1) = (k : Int) + 1 := IntWalk.i64_in _ (by omega)
    have HKN := Aside0.mk hkn
    have e4 : (t.l = []) = False := eq_false hlen0.out
    go_upto_region 14 with (fail)
    go_cut [] (fun wc4 => Aside0 (TurAt S wc4 g (onward (skipped cs R (zeroAt cs t1))) ∧ Chg S w wc4 ∧ RowAt T wc4 3 1 (.slice (some ⟨b, 0, none⟩) t.l.length t.l.length) t.l.length (ints cs)))
    case first =>
      go_region_with (fail)
      all_goals
        go_wp2
        go_meet
        have hm := HP3.out.moved kn
        have ho : onward (skipped cs R (zeroAt cs t1)) = { skipped cs R (zeroAt cs t1) with at_ := kn } := by
          unfold onward; rw [hl3.out, ha3.out, HKN.out]
        have hg : S g := HP3.out.fg
        exact ⟨⟨by rw [ho]; exact ⟨_, _, hm.keep (fun k _ _ => rfl)⟩, ((HC3.out.set hg _ _).drew), (HR3.out.keep (Keep.of_chg (((Chg.refl S _).set hg _ _).drew) hST.out))⟩⟩
    case rest =>
    obtain ⟨h4, hc4, hr4⟩ := hcut.out
    have hat := onward_at t1 HINV.out (fun e => by have := HL1.out; rw [e] at this; exact hlen0.out (List.eq_nil_of_length_eq_zero this.symm))
    obtain ⟨k2, hk2⟩ : ∃ k2 : Nat, kn = (k2 : Int) := ⟨kn.toNat, by
      have h1 : (onward t1).at_ = kn := by show (t1.at_ + 1).tmod _ = kn; rw [HK.out, HL1.out]; exact HKN.out
      omega⟩
    have hk2l : k2 < t.l.length := by
      have h1 : (onward t1).at_ = kn := by show (t1.at_ + 1).tmod _ = kn; rw [HK.out, HL1.out]; exact HKN.out
      have := HL1.out
      omega
    subst hk2
    have hl4 := Aside0.mk (show (onward (skipped cs R (zeroAt cs t1))).l.length = t.l.length from hl3.out)
    have ha4 := Aside0.mk (show (onward (skipped cs R (zeroAt cs t1))).at_ = (k2 : Int) by unfold onward; show ((skipped cs R (zeroAt cs t1)).at_ + 1).tmod _ = _; rw [hl3.out, ha3.out, HKN.out])
    have H4 := Aside0.mk h4
    have HC4 := Aside0.mk hc4
    have HR4 := Aside0.mk hr4
    obtain ⟨t4, ht4⟩ : ∃ t4, onward (skipped cs R (zeroAt cs t1)) = t4 := ⟨_, rfl⟩
    rw [ht4] at H4 hl4 ha4
    have HT4 := Aside0.mk ht4
    clear hcut h4 hc4 hr4 H3 HC3 HR3 HP3 y1 y6 y7 hat hkn e1 ht4
    obtain ⟨ms4, ad4, c4, hp4, y1, y2, _, y4, y5, y6, y7⟩ := TurAt.facts H4.out t.l.length k2 hl4.out hk2l
    have HP4 := Aside0.mk hp4
    have hc := (HR4.out.int_at (k2 : Int) (by omega) (by omega)).1
    rw [show rd cs (k2 : Int) = cs.getD k2 0 from rfl, Int.toNat_natCast] at hc
    rw [ha4.out] at y6
    obtain ⟨q2, hq2⟩ : ∃ q2, cs.getD k2 0 = q2 := ⟨_, rfl⟩
    rw [hq2] at hc
    have HQ2 := Aside0.mk hq2
    obtain ⟨C2, hC2⟩ : ∃ C2, (mbs t4.l k2).credit = C2 := ⟨_, rfl⟩
    rw [hC2] at y4
    have HC2 := Aside0.mk hC2
    have p1 : (0 ≤ (k2 : Int)) = True := eq_true (by omega)
    have p2 : ((k2 : Int) < (t.l.length : Int)) = True := eq_true (by omega)
    clear hp4 hq2 hC2 e4
    have hfin : Aside0 (∃ m, m < n ∧ ∀ (a' : Act) (w' : World), TFrame g (.slice (some ⟨b, 0, none⟩) t.l.length t.l.length) (p + 1) a' → TurAt S w' g (gained cs t4) → Chg S w w' → RowAt T w' 3 1 (.slice (some ⟨b, 0, none⟩) t.l.length t.l.length) t.l.length (ints cs) → TLab S T g t cs b t.l.length w m a' w') := by
      have hmove : Move cs t1 (gained cs t4) := ⟨HNO.out, R, hR0, hR1, HR2.out, by rw [HT4.out]⟩
      have hne : t1.l ≠ [] := fun e => by have := HL1.out; rw [e] at this; exact hlen0.out (List.eq_nil_of_length_eq_zero this.symm)
      have hcs1 : ∀ i, i < t1.l.length → 0 ≤ cs.getD i 0 ∧ cs.getD i 0 ≤ 1048576 := fun i hi => HCB0.out i (by rw [← HL1.out]; exact hi)
      obtain ⟨m, hm1, hm2⟩ := hmove.meas HINV.out hne hcs1 HMS.out
      exact ⟨m, hm1, fun a' w' h1 h2 h3 h4 => ⟨⟨p + 1, by omega, by omega, h1⟩, ⟨_, h2, .step HMV.out hmove, hmove.inv HINV.out hne hcs1, by rw [gained_len, hl4.out], hm2⟩, h4, h3⟩⟩
    by_cases hq2 : 0 < q2
    · have hne : t1.l ≠ [] := fun e => by have := HL1.out; rw [e] at this; exact hlen0.out (List.eq_nil_of_length_eq_zero this.symm)
      have hcs1 : ∀ i, i < t1.l.length → 0 ≤ cs.getD i 0 ∧ cs.getD i 0 ≤ 1048576 := fun i hi => HCB0.out i (by rw [← HL1.out]; exact hi)
      have hmove : Move cs t1 (gained cs t4) := ⟨HNO.out, R, hR0, hR1, HR2.out, by rw [HT4.out]⟩
      have hk1 : k2 < t1.l.length := by rw [HL1.out]; exact hk2l
      have hgm := gained_mb cs t4 (by rw [ha4.out]; omega) k2
      rw [if_pos ⟨by unfold cAt; rw [ha4.out]; show 0 < cs.getD k2 0; rw [HQ2.out]; exact hq2, ha4.out.symm, by rw [hl4.out]; exact hk2l⟩] at hgm
      obtain ⟨m1, _, _, m4⟩ := hmove.credit HINV.out hne hcs1
      have hwt := (m4 k2 hk1).1
      rw [hgm] at hwt
      have hq4 : t4.q = t1.q := by rw [← m1]; unfold gained; split <;> rfl
      have hg4 : gainI t4 k2 = gainI t1 k2 := by unfold gainI; rw [hq4]; rw [show (mbs t4.l k2).weight = (mbs t1.l k2).weight from hwt]
      obtain ⟨G, hG⟩ : ∃ G, gainI t1 k2 = G := ⟨_, rfl⟩
      have hsum := (hmove.inv HINV.out hne hcs1).c k2 (by rw [gained_len, hl4.out]; exact hk2l)
      rw [hgm] at hsum
      have hsum2 : 0 ≤ C2 + G ∧ C2 + G ≤ 105906176 := by
        have h1 : 0 ≤ (mbs t4.l k2).credit + gainI t4 k2 := hsum.1
        have h2 : (mbs t4.l k2).credit + gainI t4 k2 ≤ 105906176 := hsum.2.2
        rw [HC2.out, hg4, hG] at h1 h2
        exact ⟨h1, h2⟩
      have e1 : IntKind.i64.wrap (C2 + G) = C2 + G := IntWalk.i64_in _ (by omega)
      have QG := Aside0.mk (fun n => Calls.quiet_of ((gain_h HINV.out.ok hk1 hG wc HP4.out hq4 (by rw [hl4.out, HL1.out]) hwt (wc.drewN n) rfl).mono fun _ _ ⟨h1, h2⟩ => ⟨h1, h2.out⟩))
      have HG := Aside0.mk hG
      have HG4 := Aside0.mk hg4
      have hz2 : decide (0 < q2) = true := decide_eq_true hq2
      clear hne hcs1 hmove hgm m1 m4 hwt hq4 hg4 hG hsum
      go_wp2
      refine Qt.wp_region_quiet_tail 28 (by kernel_rfl) (by kernel_rfl) ?_
      simp only [List.take_succ_cons, List.take_zero, List.drop_succ_cons, List.drop_zero]
      repeat (go_big_quiet_step ((go_at_call 106; exact QG.out _)))
      refine wpQuiet_nil ?_
      intro w9 hw9
      obtain ⟨n5, rfl⟩ := hw9
      all_goals
        go_wp2
        go_step3
        obtain ⟨m, hm, hf⟩ := hfin.out
        have hst := HP4.out.credit k2 (by rw [hl4.out]; exact hk2l) (C2 + G)
        refine ⟨rfl, m, hm, b, hf _ _ (TFrame_mk ..) ?_ ((HC4.out.drewN _).set hst.2 _ _) (HR4.out.keep (Keep.of_chg (((Chg.refl S _).drewN _).set hst.2 _ _) hST.out))⟩
        unfold gained
        rw [if_pos (by unfold cAt; rw [ha4.out]; show 0 < cs.getD k2 0; rw [HQ2.out]; exact hq2), show t4.at_.toNat = k2 by rw [ha4.out]; rfl, HG4.out, HG.out]
        unfold mAt
        rw [show t4.at_.toNat = k2 by rw [ha4.out]; rfl, HC2.out]
        exact ⟨_, _, hst.1.keep (fun k _ _ => rfl)⟩
    · have hz2 : decide (0 < q2) = false := decide_eq_false hq2
      clear hq2
      go_wp2
      go_step3
      obtain ⟨m, hm, hf⟩ := hfin.out
      refine ⟨rfl, m, hm, b, hf _ _ (TFrame_mk ..) ?_ HC4.out HR4.out⟩
      unfold gained
      rw [if_neg (by unfold cAt; rw [ha4.out]; show ¬ 0 < cs.getD k2 0; rw [HQ2.out]; have := of_decide_eq_false hz2; exact this)]
      exact H4.out
end Go.Proofs.YtbpoapfkeinjnaaGreatDoor.Ld
