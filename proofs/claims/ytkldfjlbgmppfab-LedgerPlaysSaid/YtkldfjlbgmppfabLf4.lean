import Derived.Test.YtkldfjlbgmppfabLf3
namespace Go.Proofs.Ytkldfjlbgmppfab.Ld
open Go.RowKit Go.Proofs.YtkldfjlbgmppfabW.PrintWords Go.Proofs.YtkldfjlbgmppfabW.PrintLast Go.Proofs.YtkldfjlbgmppfabW.PrintMore
set_option linter.unusedVariables false
set_option linter.unusedSimpArgs false
attribute [local go_sem] max2_int min2_int max_two min_two

theorem At.usesAt {w : World} {g : Nat} {s : Led} (h : At w g s) (n : Int) : At (w.setCell ⟨g, 50, none⟩ (.int .i64 n)) g (s.uses n) := blk_put h 50 _ (enc_set_used s n)
theorem At.putAt {w : World} {g : Nat} {s : Led} {x : Pl} (h : At w g s) (i : Nat) (hi : i < 16) : At (((w.setCell ⟨g, 2 + i * 3, none⟩ (.bool x.held)).setCell ⟨g, 2 + i * 3 + 1, none⟩ (.int .i64 x.id)).setCell ⟨g, 2 + i * 3 + 2, none⟩ (.int .i64 x.mem)) g (s.put i x) :=
  blk_put (blk_set (blk_set h _ _) _ _) _ _ (enc_put s x i hi)
def freeSt (s : Led) (id : Int) : Led := if fnd (isOf id) s < 0 then s else (s.uses (s.used - (s.p (fnd (isOf id) s).toNat).mem)).put (fnd (isOf id) s).toNat nobody
def freeErr (s : Led) (id : Int) : Int := if fnd (isOf id) s < 0 then 6 else 0
/-- The memories that are held are no more than what is used. -/
def Fits (s : Led) : Prop := s.many ≤ 16 ∧ (∀ i, i < s.many → 0 ≤ (s.p i).mem ∧ (s.p i).mem ≤ s.used) ∧ 0 ≤ s.used ∧ s.used ≤ s.budget ∧ s.budget ≤ 9223372036854775807

set_option maxHeartbeats 8000000 in
set_option maxRecDepth 100000 in
theorem Free_calls (g : Nat) (s : Led) (hf : Fits s) (id : Int) (w : World) (ha : At w g s) : Calls Try.prog 28 #[.pointer (some ⟨g, 0, none⟩), .int .i64 id] w fun e w' => e = .returned (.int .i64 (freeErr s id)) ∧ At w' g (freeSt s id) ∧ Touch g w w' := by
  obtain ⟨hm, hmem, hu, hub, hb63⟩ := hf
  have HM := Aside0.mk hmem
  clear hmem
  rcases fnd_cases (isOf id) s with ⟨hr, _⟩ | ⟨i, hr, hi, _, _⟩
  · have HI : Aside0 (freeSt s id = s) := ⟨by unfold freeSt; rw [hr]; rfl⟩
    have HJ : Aside0 (freeErr s id = 6) := ⟨by unfold freeErr; rw [hr]; rfl⟩
    have HR := Aside0.mk hr
    clear hr
    go_enter Try.func28, Try.ntmps28
    go_wp2_with (first
      | (go_at_call 51; (with_reducible refine (of_calls id _).mono ?_); rintro e w1 ⟨rfl, rfl⟩)
      | (go_at_call 49; (with_reducible refine (findOf_r _ id HR.out hm _ ?ha ?hc).mono ?_); (case ha => exact ha.below (below_alloc (Below.refl _ _) _)); (case hc => exact new_cell _ _); rintro e w2 ⟨rfl, hb2⟩; have HB2 := Aside0.mk (below_step (below_alloc (Below.refl _ _) _) hb2); clear hb2))
    go_ret
    refine ⟨by rw [HJ.out]; rfl, ?_, Touch.of_below HB2.out g⟩
    rw [HI.out]; exact ha.below HB2.out
  · have HI : Aside0 (freeSt s id = (s.uses (s.used - (s.p i).mem)).put i nobody) := ⟨by unfold freeSt; rw [hr, if_neg (by omega)]; rfl⟩
    have HJ : Aside0 (freeErr s id = 0) := ⟨by unfold freeErr; rw [hr, if_neg (by omega)]⟩
    have HR := Aside0.mk hr
    obtain ⟨m0, m1⟩ := HM.out i hi
    clear hr
    go_enter Try.func28, Try.ntmps28
    go_upto_region 4 with (first
      | (go_at_call 51; (with_reducible refine (of_calls id _).mono ?_); rintro e w1 ⟨rfl, rfl⟩)
      | (go_at_call 49; (with_reducible refine (findOf_r _ id HR.out hm _ ?ha ?hc).mono ?_); (case ha => exact ha.below (below_alloc (Below.refl _ _) _)); (case hc => exact new_cell _ _); rintro e w2 ⟨rfl, hb2⟩; have HB2 := Aside0.mk (below_step (below_alloc (Below.refl _ _) _) hb2); clear hb2))
    have h2 := ha.below HB2.out
    have c1 := h2.used
    have c2 := h2.held i (by omega)
    have c3 := h2.id i (by omega)
    have c4 := h2.mem i (by omega)
    have z1 := h2.frozen 50
    have z2 := h2.frozen (2 + i * 3)
    have z3 := h2.frozen (2 + i * 3 + 1)
    have z4 := h2.frozen (2 + i * 3 + 2)
    have q1 : (i : Int) < 16 := by omega
    generalize hp : s.p i = p at c2 c3 c4 m0 m1
    have HP := Aside0.mk hp
    clear hp
    go_region
    all_goals
      go_wp2
      go_ret
      refine ⟨by rw [HJ.out]; rfl, ?_, ?_⟩
      · rw [HI.out, HP.out]
        exact blk_drew (At.putAt (x := nobody) (At.usesAt h2 _) i (by omega))
      · exact (((((Touch.of_below HB2.out g).set _ _).set _ _).set _ _).set _ _).drew

def takeErr (s : Led) (id mem : Int) : Int := if id < 0 ∨ mem < 0 then 1 else if s.budget < mem then 5 else if 0 ≤ fnd (isOf id) s then 8 else if fnd isFree s < 0 ∨ s.budget - s.used < mem then 4 else 0
def takeSlot (s : Led) (id mem : Int) : Int := if takeErr s id mem = 0 then fnd isFree s else 0
def takeSt (s : Led) (id mem : Int) : Led := if takeErr s id mem = 0 then (s.put (fnd isFree s).toNat ⟨true, id, mem⟩).uses (s.used + mem) else s
/-- What Take tells and leaves. -/
def TakeIs (g : Nat) (s : Led) (id mem : Int) (w : World) (e : Ending) (w' : World) : Prop := e = .returned (.tuple #[.int .i64 (takeSlot s id mem), .int .i64 (takeErr s id mem)]) ∧ At w' g (takeSt s id mem) ∧ Touch g w w'
theorem TakeIs.no {g : Nat} {s : Led} {id mem n : Int} {w w' : World} (h : takeErr s id mem = n) (h0 : n ≠ 0) (ha : At w g s) (hb : Below w.heap.size w w') : TakeIs g s id mem w (.returned (.tuple #[.int .i64 0, .int .i64 n])) w' := by
  have h1 : takeErr s id mem ≠ 0 := by rw [h]; exact h0
  unfold TakeIs takeSlot takeSt
  rw [if_neg h1, if_neg h1, h]
  exact ⟨rfl, ha.below hb, Touch.of_below hb g⟩

theorem TakeIs.yes {g : Nat} {s : Led} {id mem : Int} {i : Nat} {w w2 : World} (h : takeErr s id mem = 0) (hz : fnd isFree s = (i : Int)) (hi : i < 16) (h2 : At w2 g s) (hb : Below w.heap.size w w2) (n : Nat) :
    TakeIs g s id mem w (.returned (.tuple #[.int .i64 (i : Int), .int .i64 0])) (((((w2.drewN n).setCell ⟨g, 2 + i * 3, none⟩ (.bool true)).setCell ⟨g, 2 + i * 3 + 1, none⟩ (.int .i64 id)).setCell ⟨g, 2 + i * 3 + 2, none⟩ (.int .i64 mem)).setCell ⟨g, 50, none⟩ (.int .i64 (s.used + mem))) := by
  unfold TakeIs takeSlot takeSt
  rw [if_pos h, if_pos h, h, hz]
  have h3 : At (w2.drewN n) g s := h2
  exact ⟨rfl, At.usesAt (At.putAt (x := ⟨true, id, mem⟩) h3 i hi) _, (((((Touch.of_below hb g).drewN n).set _ _).set _ _).set _ _).set _ _⟩
theorem Slot_r {g : Nat} {s : Led} {id a : Int} {b : Bool} (h1 : slotI s id = a) (h2 : slotB s id = b) (hm : s.many ≤ 16) (w : World) (ha : At w g s) : Calls Try.prog 30 #[.pointer (some ⟨g, 0, none⟩), .int .i64 id] w fun e w' => e = .returned (.tuple #[.int .i64 a, .bool b]) ∧ Below w.heap.size w w' := by
  subst h1 h2; exact Slot_calls g s hm id w ha
theorem Room_r {g : Nat} {s : Led} {q : Int} (hq : s.budget - s.used = q) (h0 : 0 ≤ s.used) (h1 : s.used ≤ s.budget) (h2 : s.budget ≤ 9223372036854775807) (w : World) (ha : At w g s) : Calls Try.prog 34 #[.pointer (some ⟨g, 0, none⟩)] w fun e w' => e = .returned (.int .i64 q) ∧ Drawn0 w w' := by
  subst hq; exact Room_calls g s w ha h0 h1 h2

set_option maxHeartbeats 8000000 in
set_option maxRecDepth 100000 in
theorem Take_calls (g : Nat) (s : Led) (hf : Fits s) (id mem : Int) (w : World) (ha : At w g s) : Calls Try.prog 26 #[.pointer (some ⟨g, 0, none⟩), .int .i64 id, .int .i64 mem] w (TakeIs g s id mem w) := by
  obtain ⟨hm, _, hu, hub, hb63⟩ := hf
  obtain ⟨r, hr⟩ : ∃ r, fnd isFree s = r := ⟨_, rfl⟩
  obtain ⟨q, hq⟩ : ∃ q, s.budget - s.used = q := ⟨_, rfl⟩
  obtain ⟨a, hia⟩ : ∃ a, slotI s id = a := ⟨_, rfl⟩
  obtain ⟨t, ht⟩ : ∃ t, fnd (isOf id) s = t := ⟨_, rfl⟩
  have HF := Aside0.mk hr
  have HQ := Aside0.mk hq
  have HI := Aside0.mk hia
  have HT := Aside0.mk ht
  have hjb : slotB s id = decide (0 ≤ t) := by unfold slotB; rw [ht]
  have hbu := Aside0.mk (rfl : s.budget = s.budget)
  clear hq hia
  have c0 := ha.budget
  by_cases h1 : id < 0
  · have HE : Aside0 (takeErr s id mem = 1) := ⟨if_pos (.inl h1)⟩
    have HJ := Aside0.mk hjb
    clear hjb hr ht
    go_enter Try.func26, Try.ntmps26
    go_wp2_with (first
      | (go_at_call 49; (with_reducible refine (findFree_r HF.out hm _ ?ha).mono ?_); (case ha => exact ha); rintro e w1 ⟨rfl, hb1⟩; have HB1 := Aside0.mk hb1; clear hb1)
      | (go_at_call 30; (with_reducible refine (Slot_r HI.out HJ.out hm _ ?ha).mono ?_); (case ha => exact ha.below HB1.out); rintro e w2 ⟨rfl, hb2⟩; have HB2 := Aside0.mk (below_step HB1.out hb2); have h2w := ha.below HB2.out; have c1 := h2w.budget; clear hb2)
      | (go_at_call 34; (with_reducible refine (Room_r HQ.out hu hub hb63 _ ?ha).mono ?_); (case ha => exact ha.below HB2.out); rintro e w3 ⟨rfl, ⟨n3, rfl⟩⟩))
    go_ret2
    exact TakeIs.no HE.out (by decide) ha (by first | exact HB2.out | exact pw_below_drewN HB2.out _)
  by_cases h2 : mem < 0
  · have HE : Aside0 (takeErr s id mem = 1) := ⟨if_pos (.inr h2)⟩
    have HJ := Aside0.mk hjb
    clear hjb hr ht
    go_enter Try.func26, Try.ntmps26
    go_wp2_with (first
      | (go_at_call 49; (with_reducible refine (findFree_r HF.out hm _ ?ha).mono ?_); (case ha => exact ha); rintro e w1 ⟨rfl, hb1⟩; have HB1 := Aside0.mk hb1; clear hb1)
      | (go_at_call 30; (with_reducible refine (Slot_r HI.out HJ.out hm _ ?ha).mono ?_); (case ha => exact ha.below HB1.out); rintro e w2 ⟨rfl, hb2⟩; have HB2 := Aside0.mk (below_step HB1.out hb2); have h2w := ha.below HB2.out; have c1 := h2w.budget; clear hb2)
      | (go_at_call 34; (with_reducible refine (Room_r HQ.out hu hub hb63 _ ?ha).mono ?_); (case ha => exact ha.below HB2.out); rintro e w3 ⟨rfl, ⟨n3, rfl⟩⟩))
    go_ret2
    exact TakeIs.no HE.out (by decide) ha (by first | exact HB2.out | exact pw_below_drewN HB2.out _)
  have n12 : ¬ (id < 0 ∨ mem < 0) := by omega
  by_cases h3 : s.budget < mem
  · have HE : Aside0 (takeErr s id mem = 5) := ⟨by unfold takeErr; rw [if_neg n12, if_pos h3]⟩
    clear n12
    have HJ := Aside0.mk hjb
    clear hjb hr ht
    go_enter Try.func26, Try.ntmps26
    go_wp2_with (first
      | (go_at_call 49; (with_reducible refine (findFree_r HF.out hm _ ?ha).mono ?_); (case ha => exact ha); rintro e w1 ⟨rfl, hb1⟩; have HB1 := Aside0.mk hb1; clear hb1)
      | (go_at_call 30; (with_reducible refine (Slot_r HI.out HJ.out hm _ ?ha).mono ?_); (case ha => exact ha.below HB1.out); rintro e w2 ⟨rfl, hb2⟩; have HB2 := Aside0.mk (below_step HB1.out hb2); have h2w := ha.below HB2.out; have c1 := h2w.budget; clear hb2)
      | (go_at_call 34; (with_reducible refine (Room_r HQ.out hu hub hb63 _ ?ha).mono ?_); (case ha => exact ha.below HB2.out); rintro e w3 ⟨rfl, ⟨n3, rfl⟩⟩))
    go_ret2
    exact TakeIs.no HE.out (by decide) ha (by first | exact HB2.out | exact pw_below_drewN HB2.out _)
  by_cases h4 : 0 ≤ t
  · have HE : Aside0 (takeErr s id mem = 8) := ⟨by unfold takeErr; rw [if_neg n12, if_neg h3, ht, if_pos h4]⟩
    clear n12
    have HJ := Aside0.mk hjb
    clear hjb hr ht
    go_enter Try.func26, Try.ntmps26
    go_wp2_with (first
      | (go_at_call 49; (with_reducible refine (findFree_r HF.out hm _ ?ha).mono ?_); (case ha => exact ha); rintro e w1 ⟨rfl, hb1⟩; have HB1 := Aside0.mk hb1; clear hb1)
      | (go_at_call 30; (with_reducible refine (Slot_r HI.out HJ.out hm _ ?ha).mono ?_); (case ha => exact ha.below HB1.out); rintro e w2 ⟨rfl, hb2⟩; have HB2 := Aside0.mk (below_step HB1.out hb2); have h2w := ha.below HB2.out; have c1 := h2w.budget; clear hb2)
      | (go_at_call 34; (with_reducible refine (Room_r HQ.out hu hub hb63 _ ?ha).mono ?_); (case ha => exact ha.below HB2.out); rintro e w3 ⟨rfl, ⟨n3, rfl⟩⟩))
    go_ret2
    exact TakeIs.no HE.out (by decide) ha (by first | exact HB2.out | exact pw_below_drewN HB2.out _)
  by_cases h5 : r < 0
  · have HE : Aside0 (takeErr s id mem = 4) := ⟨by unfold takeErr; rw [if_neg n12, if_neg h3, ht, if_neg h4, hr, if_pos (.inl h5)]⟩
    clear n12
    have HJ := Aside0.mk hjb
    clear hjb hr ht
    go_enter Try.func26, Try.ntmps26
    go_wp2_with (first
      | (go_at_call 49; (with_reducible refine (findFree_r HF.out hm _ ?ha).mono ?_); (case ha => exact ha); rintro e w1 ⟨rfl, hb1⟩; have HB1 := Aside0.mk hb1; clear hb1)
      | (go_at_call 30; (with_reducible refine (Slot_r HI.out HJ.out hm _ ?ha).mono ?_); (case ha => exact ha.below HB1.out); rintro e w2 ⟨rfl, hb2⟩; have HB2 := Aside0.mk (below_step HB1.out hb2); have h2w := ha.below HB2.out; have c1 := h2w.budget; clear hb2)
      | (go_at_call 34; (with_reducible refine (Room_r HQ.out hu hub hb63 _ ?ha).mono ?_); (case ha => exact ha.below HB2.out); rintro e w3 ⟨rfl, ⟨n3, rfl⟩⟩))
    go_ret2
    exact TakeIs.no HE.out (by decide) ha (by first | exact HB2.out | exact pw_below_drewN HB2.out _)
  by_cases h6 : q < mem
  · have HE : Aside0 (takeErr s id mem = 4) := ⟨by unfold takeErr; rw [if_neg n12, if_neg h3, ht, if_neg h4, hr, HQ.out, if_pos (.inr h6)]⟩
    clear n12
    have HJ := Aside0.mk hjb
    clear hjb hr ht
    go_enter Try.func26, Try.ntmps26
    go_wp2_with (first
      | (go_at_call 49; (with_reducible refine (findFree_r HF.out hm _ ?ha).mono ?_); (case ha => exact ha); rintro e w1 ⟨rfl, hb1⟩; have HB1 := Aside0.mk hb1; clear hb1)
      | (go_at_call 30; (with_reducible refine (Slot_r HI.out HJ.out hm _ ?ha).mono ?_); (case ha => exact ha.below HB1.out); rintro e w2 ⟨rfl, hb2⟩; have HB2 := Aside0.mk (below_step HB1.out hb2); have h2w := ha.below HB2.out; have c1 := h2w.budget; clear hb2)
      | (go_at_call 34; (with_reducible refine (Room_r HQ.out hu hub hb63 _ ?ha).mono ?_); (case ha => exact ha.below HB2.out); rintro e w3 ⟨rfl, ⟨n3, rfl⟩⟩))
    go_ret2
    exact TakeIs.no HE.out (by decide) ha (by first | exact HB2.out | exact pw_below_drewN HB2.out _)
  have HE : Aside0 (takeErr s id mem = 0) := ⟨by unfold takeErr; rw [if_neg n12, if_neg h3, ht, if_neg h4, hr, HQ.out, if_neg (by omega)]⟩
  rcases fnd_cases isFree s with ⟨hz, _⟩ | ⟨i, hz, hi, _, _⟩
  · exfalso; rw [hr] at hz; omega
  obtain rfl : r = (i : Int) := by rw [← hr, hz]
  have HZ := Aside0.mk hz
  have HJ := Aside0.mk hjb
  have hq2 : mem ≤ s.budget - s.used := by rw [HQ.out]; omega
  clear hjb hr ht hz n12
  go_enter Try.func26, Try.ntmps26
  go_wp2_with (first
      | (go_at_call 49; (with_reducible refine (findFree_r HF.out hm _ ?ha).mono ?_); (case ha => exact ha); rintro e w1 ⟨rfl, hb1⟩; have HB1 := Aside0.mk hb1; clear hb1)
      | (go_at_call 30; (with_reducible refine (Slot_r HI.out HJ.out hm _ ?ha).mono ?_); (case ha => exact ha.below HB1.out); rintro e w2 ⟨rfl, hb2⟩; have HB2 := Aside0.mk (below_step HB1.out hb2); have h2w := ha.below HB2.out; have c1 := h2w.budget; have c2 := h2w.held i (by omega); have c3 := h2w.id i (by omega); have c4 := h2w.mem i (by omega); have c5 := h2w.used; have z1 := h2w.frozen 50; have z2 := h2w.frozen (2 + i * 3); have z3 := h2w.frozen (2 + i * 3 + 1); have z4 := h2w.frozen (2 + i * 3 + 2); have q1 : (i : Int) < 16 := (by omega); clear hb2)
      | (go_at_call 34; (with_reducible refine (Room_r HQ.out hu hub hb63 _ ?ha).mono ?_); (case ha => exact ha.below HB2.out); rintro e w3 ⟨rfl, ⟨n3, rfl⟩⟩))
  all_goals
    go_ret2
    exact TakeIs.yes HE.out HZ.out (by omega) h2w HB2.out n3
end Go.Proofs.Ytkldfjlbgmppfab.Ld
