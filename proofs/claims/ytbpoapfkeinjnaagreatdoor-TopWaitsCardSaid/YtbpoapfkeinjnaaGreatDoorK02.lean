/- The engine of the yard and what it leans on, part 2. -/
import Derived.Test.YtbpoapfkeinjnaaGreatDoorK01
namespace Go.Proofs.YtbpoapfkeinjnaaGreatDoor.Ld
open Go.RowKit Go.Proofs.YtbpoapfkeinjnaaGreatDoorW.PrintWords Go.Proofs.YtbpoapfkeinjnaaGreatDoorW.PrintLast Go.Proofs.YtbpoapfkeinjnaaGreatDoorW.PrintMore
set_option linter.unusedVariables false
set_option linter.unusedSimpArgs false
attribute [local go_sem] max2_int min2_int max_two min_two

theorem At.usesAt {w : World} {g : Nat} {s : Led} (h : At w g s) (n : Int) : At (w.setCell ⟨g, 50, none⟩ (.int .i64 n)) g (s.uses n) := blk_put h 50 _ (enc_set_used s n)
theorem At.putAt {w : World} {g : Nat} {s : Led} {x : Pl} (h : At w g s) (i : Nat) (hi : i < 16) : At (((w.setCell ⟨g, 2 + i * 3, none⟩ (.bool x.held)).setCell ⟨g, 2 + i * 3 + 1, none⟩ (.int .i64 x.id)).setCell ⟨g, 2 + i * 3 + 2, none⟩ (.int .i64 x.mem)) g (s.put i x) :=
  blk_put (blk_set (blk_set h _ _) _ _) _ _ (enc_put s x i hi)
def freeSt (s : Led) (id : Int) : Led := if fnd (isOf id) s < 0 then s else (s.uses (s.used - (s.p (fnd (isOf id) s).toNat).mem)).put (fnd (isOf id) s).toNat nobody
def freeErr (s : Led) (id : Int) : Int := if fnd (isOf id) s < 0 then 6 else 0
def Fits (s : Led) : Prop := s.many ≤ 16 ∧ (∀ i, i < s.many → 0 ≤ (s.p i).mem ∧ (s.p i).mem ≤ s.used) ∧ 0 ≤ s.used ∧ s.used ≤ s.budget ∧ s.budget ≤ 9223372036854775807

set_option maxHeartbeats 8000000 in
set_option maxRecDepth 100000 in
theorem Free_calls (g : Nat) (s : Led) (hf : Fits s) (id : Int) (w : World) (ha : At w g s) : Calls Tryz.prog 82 #[.pointer (some ⟨g, 0, none⟩), .int .i64 id] w fun e w' => e = .returned (.int .i64 (freeErr s id)) ∧ At w' g (freeSt s id) ∧ Touch g w w' := by
  obtain ⟨hm, hmem, hu, hub, hb63⟩ := hf
  have HM := Aside0.mk hmem
  clear hmem
  rcases fnd_cases (isOf id) s with ⟨hr, _⟩ | ⟨i, hr, hi, _, _⟩
  · have HI : Aside0 (freeSt s id = s) := ⟨by unfold freeSt; rw [hr]; rfl⟩
    have HJ : Aside0 (freeErr s id = 6) := ⟨by unfold freeErr; rw [hr]; rfl⟩
    have HR := Aside0.mk hr
    clear hr
    go_enter Tryz.func82, Tryz.ntmps82
    go_wp2_with (first
      | (go_at_call 130; (with_reducible refine (of_calls id _).mono ?_); rintro e w1 ⟨rfl, rfl⟩)
      | (go_at_call 129; (with_reducible refine (findOf_r _ id HR.out hm _ ?ha ?hc).mono ?_); (case ha => exact ha.below (below_alloc (Below.refl _ _) _)); (case hc => exact new_cell _ _); rintro e w2 ⟨rfl, hb2⟩; have HB2 := Aside0.mk (below_step (below_alloc (Below.refl _ _) _) hb2); clear hb2))
    go_ret
    refine ⟨by rw [HJ.out]; rfl, ?_, Touch.of_below HB2.out g⟩
    rw [HI.out]; exact ha.below HB2.out
  · have HI : Aside0 (freeSt s id = (s.uses (s.used - (s.p i).mem)).put i nobody) := ⟨by unfold freeSt; rw [hr, if_neg (by omega)]; rfl⟩
    have HJ : Aside0 (freeErr s id = 0) := ⟨by unfold freeErr; rw [hr, if_neg (by omega)]⟩
    have HR := Aside0.mk hr
    obtain ⟨m0, m1⟩ := HM.out i hi
    clear hr
    go_enter Tryz.func82, Tryz.ntmps82
    go_upto_region 4 with (first
      | (go_at_call 130; (with_reducible refine (of_calls id _).mono ?_); rintro e w1 ⟨rfl, rfl⟩)
      | (go_at_call 129; (with_reducible refine (findOf_r _ id HR.out hm _ ?ha ?hc).mono ?_); (case ha => exact ha.below (below_alloc (Below.refl _ _) _)); (case hc => exact new_cell _ _); rintro e w2 ⟨rfl, hb2⟩; have HB2 := Aside0.mk (below_step (below_alloc (Below.refl _ _) _) hb2); clear hb2))
    have h2 := ha.below HB2.out
    have c1 := h2.used
    have c2 := h2.held i (by omega)
    have c3 := h2.id i (by omega)
    have c4 := h2.mem i (by omega)
    have z1 := h2.frozen 50
    have z2 := h2.frozen (2 + i * 3)
    have z3 := h2.frozen (2 + i * 3 + 1)
    have z4 := h2.frozen (2 + i * 3 + 2)
    have q1 : (i : Int) < 16 := by omega
    generalize hp : s.p i = p at c2 c3 c4 m0 m1
    have HP := Aside0.mk hp
    clear hp
    go_region
    all_goals
      go_wp2
      go_ret
      refine ⟨by rw [HJ.out]; rfl, ?_, ?_⟩
      · rw [HI.out, HP.out]
        exact blk_drew (At.putAt (x := nobody) (At.usesAt h2 _) i (by omega))
      · exact (((((Touch.of_below HB2.out g).set _ _).set _ _).set _ _).set _ _).drew

def takeErr (s : Led) (id mem : Int) : Int := if id < 0 ∨ mem < 0 then 1 else if s.budget < mem then 5 else if 0 ≤ fnd (isOf id) s then 8 else if fnd isFree s < 0 ∨ s.budget - s.used < mem then 4 else 0
def takeSlot (s : Led) (id mem : Int) : Int := if takeErr s id mem = 0 then fnd isFree s else 0
def takeSt (s : Led) (id mem : Int) : Led := if takeErr s id mem = 0 then (s.put (fnd isFree s).toNat ⟨true, id, mem⟩).uses (s.used + mem) else s
def TakeIs (g : Nat) (s : Led) (id mem : Int) (w : World) (e : Ending) (w' : World) : Prop := e = .returned (.tuple #[.int .i64 (takeSlot s id mem), .int .i64 (takeErr s id mem)]) ∧ At w' g (takeSt s id mem) ∧ Touch g w w'
theorem TakeIs.no {g : Nat} {s : Led} {id mem n : Int} {w w' : World} (h : takeErr s id mem = n) (h0 : n ≠ 0) (ha : At w g s) (hb : Below w.heap.size w w') : TakeIs g s id mem w (.returned (.tuple #[.int .i64 0, .int .i64 n])) w' := by
  have h1 : takeErr s id mem ≠ 0 := by rw [h]; exact h0
  unfold TakeIs takeSlot takeSt
  rw [if_neg h1, if_neg h1, h]
  exact ⟨rfl, ha.below hb, Touch.of_below hb g⟩

theorem TakeIs.yes {g : Nat} {s : Led} {id mem : Int} {i : Nat} {w w2 : World} (h : takeErr s id mem = 0) (hz : fnd isFree s = (i : Int)) (hi : i < 16) (h2 : At w2 g s) (hb : Below w.heap.size w w2) (n : Nat) :
    TakeIs g s id mem w (.returned (.tuple #[.int .i64 (i : Int), .int .i64 0])) (((((w2.drewN n).setCell ⟨g, 2 + i * 3, none⟩ (.bool true)).setCell ⟨g, 2 + i * 3 + 1, none⟩ (.int .i64 id)).setCell ⟨g, 2 + i * 3 + 2, none⟩ (.int .i64 mem)).setCell ⟨g, 50, none⟩ (.int .i64 (s.used + mem))) := by
  unfold TakeIs takeSlot takeSt
  rw [if_pos h, if_pos h, h, hz]
  have h3 : At (w2.drewN n) g s := h2
  exact ⟨rfl, At.usesAt (At.putAt (x := ⟨true, id, mem⟩) h3 i hi) _, (((((Touch.of_below hb g).drewN n).set _ _).set _ _).set _ _).set _ _⟩
theorem Slot_r {g : Nat} {s : Led} {id a : Int} {b : Bool} (h1 : slotI s id = a) (h2 : slotB s id = b) (hm : s.many ≤ 16) (w : World) (ha : At w g s) : Calls Tryz.prog 128 #[.pointer (some ⟨g, 0, none⟩), .int .i64 id] w fun e w' => e = .returned (.tuple #[.int .i64 a, .bool b]) ∧ Below w.heap.size w w' := by
  subst h1 h2; exact Slot_calls g s hm id w ha
theorem Room_r {g : Nat} {s : Led} {q : Int} (hq : s.budget - s.used = q) (h0 : 0 ≤ s.used) (h1 : s.used ≤ s.budget) (h2 : s.budget ≤ 9223372036854775807) (w : World) (ha : At w g s) : Calls Tryz.prog 95 #[.pointer (some ⟨g, 0, none⟩)] w fun e w' => e = .returned (.int .i64 q) ∧ Drawn0 w w' := by
  subst hq; exact Room_calls g s w ha h0 h1 h2

set_option maxHeartbeats 8000000 in
set_option maxRecDepth 100000 in
theorem Take_calls (g : Nat) (s : Led) (hf : Fits s) (id mem : Int) (w : World) (ha : At w g s) : Calls Tryz.prog 107 #[.pointer (some ⟨g, 0, none⟩), .int .i64 id, .int .i64 mem] w (TakeIs g s id mem w) := by
  obtain ⟨hm, _, hu, hub, hb63⟩ := hf
  obtain ⟨r, hr⟩ : ∃ r, fnd isFree s = r := ⟨_, rfl⟩
  obtain ⟨q, hq⟩ : ∃ q, s.budget - s.used = q := ⟨_, rfl⟩
  obtain ⟨a, hia⟩ : ∃ a, slotI s id = a := ⟨_, rfl⟩
  obtain ⟨t, ht⟩ : ∃ t, fnd (isOf id) s = t := ⟨_, rfl⟩
  have HF := Aside0.mk hr
  have HQ := Aside0.mk hq
  have HI := Aside0.mk hia
  have HT := Aside0.mk ht
  have hjb : slotB s id = decide (0 ≤ t) := by unfold slotB; rw [ht]
  have hbu := Aside0.mk (rfl : s.budget = s.budget)
  clear hq hia
  have c0 := ha.budget
  by_cases h1 : id < 0
  · have HE : Aside0 (takeErr s id mem = 1) := ⟨if_pos (.inl h1)⟩
    have HJ := Aside0.mk hjb
    clear hjb hr ht
    go_enter Tryz.func107, Tryz.ntmps107
    go_wp2_with (first
      | (go_at_call 129; (with_reducible refine (findFree_r HF.out hm _ ?ha).mono ?_); (case ha => exact ha); rintro e w1 ⟨rfl, hb1⟩; have HB1 := Aside0.mk hb1; clear hb1)
      | (go_at_call 128; (with_reducible refine (Slot_r HI.out HJ.out hm _ ?ha).mono ?_); (case ha => exact ha.below HB1.out); rintro e w2 ⟨rfl, hb2⟩; have HB2 := Aside0.mk (below_step HB1.out hb2); have h2w := ha.below HB2.out; have c1 := h2w.budget; clear hb2)
      | (go_at_call 95; (with_reducible refine (Room_r HQ.out hu hub hb63 _ ?ha).mono ?_); (case ha => exact ha.below HB2.out); rintro e w3 ⟨rfl, ⟨n3, rfl⟩⟩))
    go_ret2
    exact TakeIs.no HE.out (by decide) ha (by first | exact HB2.out | exact pw_below_drewN HB2.out _)
  by_cases h2 : mem < 0
  · have HE : Aside0 (takeErr s id mem = 1) := ⟨if_pos (.inr h2)⟩
    have HJ := Aside0.mk hjb
    clear hjb hr ht
    go_enter Tryz.func107, Tryz.ntmps107
    go_wp2_with (first
      | (go_at_call 129; (with_reducible refine (findFree_r HF.out hm _ ?ha).mono ?_); (case ha => exact ha); rintro e w1 ⟨rfl, hb1⟩; have HB1 := Aside0.mk hb1; clear hb1)
      | (go_at_call 128; (with_reducible refine (Slot_r HI.out HJ.out hm _ ?ha).mono ?_); (case ha => exact ha.below HB1.out); rintro e w2 ⟨rfl, hb2⟩; have HB2 := Aside0.mk (below_step HB1.out hb2); have h2w := ha.below HB2.out; have c1 := h2w.budget; clear hb2)
      | (go_at_call 95; (with_reducible refine (Room_r HQ.out hu hub hb63 _ ?ha).mono ?_); (case ha => exact ha.below HB2.out); rintro e w3 ⟨rfl, ⟨n3, rfl⟩⟩))
    go_ret2
    exact TakeIs.no HE.out (by decide) ha (by first | exact HB2.out | exact pw_below_drewN HB2.out _)
  have n12 : ¬ (id < 0 ∨ mem < 0) := by omega
  by_cases h3 : s.budget < mem
  · have HE : Aside0 (takeErr s id mem = 5) := ⟨by unfold takeErr; rw [if_neg n12, if_pos h3]⟩
    clear n12
    have HJ := Aside0.mk hjb
    clear hjb hr ht
    go_enter Tryz.func107, Tryz.ntmps107
    go_wp2_with (first
      | (go_at_call 129; (with_reducible refine (findFree_r HF.out hm _ ?ha).mono ?_); (case ha => exact ha); rintro e w1 ⟨rfl, hb1⟩; have HB1 := Aside0.mk hb1; clear hb1)
      | (go_at_call 128; (with_reducible refine (Slot_r HI.out HJ.out hm _ ?ha).mono ?_); (case ha => exact ha.below HB1.out); rintro e w2 ⟨rfl, hb2⟩; have HB2 := Aside0.mk (below_step HB1.out hb2); have h2w := ha.below HB2.out; have c1 := h2w.budget; clear hb2)
      | (go_at_call 95; (with_reducible refine (Room_r HQ.out hu hub hb63 _ ?ha).mono ?_); (case ha => exact ha.below HB2.out); rintro e w3 ⟨rfl, ⟨n3, rfl⟩⟩))
    go_ret2
    exact TakeIs.no HE.out (by decide) ha (by first | exact HB2.out | exact pw_below_drewN HB2.out _)
  by_cases h4 : 0 ≤ t
  · have HE : Aside0 (takeErr s id mem = 8) := ⟨by unfold takeErr; rw [if_neg n12, if_neg h3, ht, if_pos h4]⟩
    clear n12
    have HJ := Aside0.mk hjb
    clear hjb hr ht
    go_enter Tryz.func107, Tryz.ntmps107
    go_wp2_with (first
      | (go_at_call 129; (with_reducible refine (findFree_r HF.out hm _ ?ha).mono ?_); (case ha => exact ha); rintro e w1 ⟨rfl, hb1⟩; have HB1 := Aside0.mk hb1; clear hb1)
      | (go_at_call 128; (with_reducible refine (Slot_r HI.out HJ.out hm _ ?ha).mono ?_); (case ha => exact ha.below HB1.out); rintro e w2 ⟨rfl, hb2⟩; have HB2 := Aside0.mk (below_step HB1.out hb2); have h2w := ha.below HB2.out; have c1 := h2w.budget; clear hb2)
      | (go_at_call 95; (with_reducible refine (Room_r HQ.out hu hub hb63 _ ?ha).mono ?_); (case ha => exact ha.below HB2.out); rintro e w3 ⟨rfl, ⟨n3, rfl⟩⟩))
    go_ret2
    exact TakeIs.no HE.out (by decide) ha (by first | exact HB2.out | exact pw_below_drewN HB2.out _)
  by_cases h5 : r < 0
  · have HE : Aside0 (takeErr s id mem = 4) := ⟨by unfold takeErr; rw [if_neg n12, if_neg h3, ht, if_neg h4, hr, if_pos (.inl h5)]⟩
    clear n12
    have HJ := Aside0.mk hjb
    clear hjb hr ht
    go_enter Tryz.func107, Tryz.ntmps107
    go_wp2_with (first
      | (go_at_call 129; (with_reducible refine (findFree_r HF.out hm _ ?ha).mono ?_); (case ha => exact ha); rintro e w1 ⟨rfl, hb1⟩; have HB1 := Aside0.mk hb1; clear hb1)
      | (go_at_call 128; (with_reducible refine (Slot_r HI.out HJ.out hm _ ?ha).mono ?_); (case ha => exact ha.below HB1.out); rintro e w2 ⟨rfl, hb2⟩; have HB2 := Aside0.mk (below_step HB1.out hb2); have h2w := ha.below HB2.out; have c1 := h2w.budget; clear hb2)
      | (go_at_call 95; (with_reducible refine (Room_r HQ.out hu hub hb63 _ ?ha).mono ?_); (case ha => exact ha.below HB2.out); rintro e w3 ⟨rfl, ⟨n3, rfl⟩⟩))
    go_ret2
    exact TakeIs.no HE.out (by decide) ha (by first | exact HB2.out | exact pw_below_drewN HB2.out _)
  by_cases h6 : q < mem
  · have HE : Aside0 (takeErr s id mem = 4) := ⟨by unfold takeErr; rw [if_neg n12, if_neg h3, ht, if_neg h4, hr, HQ.out, if_pos (.inr h6)]⟩
    clear n12
    have HJ := Aside0.mk hjb
    clear hjb hr ht
    go_enter Tryz.func107, Tryz.ntmps107
    go_wp2_with (first
      | (go_at_call 129; (with_reducible refine (findFree_r HF.out hm _ ?ha).mono ?_); (case ha => exact ha); rintro e w1 ⟨rfl, hb1⟩; have HB1 := Aside0.mk hb1; clear hb1)
      | (go_at_call 128; (with_reducible refine (Slot_r HI.out HJ.out hm _ ?ha).mono ?_); (case ha => exact ha.below HB1.out); rintro e w2 ⟨rfl, hb2⟩; have HB2 := Aside0.mk (below_step HB1.out hb2); have h2w := ha.below HB2.out; have c1 := h2w.budget; clear hb2)
      | (go_at_call 95; (with_reducible refine (Room_r HQ.out hu hub hb63 _ ?ha).mono ?_); (case ha => exact ha.below HB2.out); rintro e w3 ⟨rfl, ⟨n3, rfl⟩⟩))
    go_ret2
    exact TakeIs.no HE.out (by decide) ha (by first | exact HB2.out | exact pw_below_drewN HB2.out _)
  have HE : Aside0 (takeErr s id mem = 0) := ⟨by unfold takeErr; rw [if_neg n12, if_neg h3, ht, if_neg h4, hr, HQ.out, if_neg (by omega)]⟩
  rcases fnd_cases isFree s with ⟨hz, _⟩ | ⟨i, hz, hi, _, _⟩
  · exfalso; rw [hr] at hz; omega
  obtain rfl : r = (i : Int) := by rw [← hr, hz]
  have HZ := Aside0.mk hz
  have HJ := Aside0.mk hjb
  have hq2 : mem ≤ s.budget - s.used := by rw [HQ.out]; omega
  clear hjb hr ht hz n12
  go_enter Tryz.func107, Tryz.ntmps107
  go_wp2_with (first
      | (go_at_call 129; (with_reducible refine (findFree_r HF.out hm _ ?ha).mono ?_); (case ha => exact ha); rintro e w1 ⟨rfl, hb1⟩; have HB1 := Aside0.mk hb1; clear hb1)
      | (go_at_call 128; (with_reducible refine (Slot_r HI.out HJ.out hm _ ?ha).mono ?_); (case ha => exact ha.below HB1.out); rintro e w2 ⟨rfl, hb2⟩; have HB2 := Aside0.mk (below_step HB1.out hb2); have h2w := ha.below HB2.out; have c1 := h2w.budget; have c2 := h2w.held i (by omega); have c3 := h2w.id i (by omega); have c4 := h2w.mem i (by omega); have c5 := h2w.used; have z1 := h2w.frozen 50; have z2 := h2w.frozen (2 + i * 3); have z3 := h2w.frozen (2 + i * 3 + 1); have z4 := h2w.frozen (2 + i * 3 + 2); have q1 : (i : Int) < 16 := (by omega); clear hb2)
      | (go_at_call 95; (with_reducible refine (Room_r HQ.out hu hub hb63 _ ?ha).mono ?_); (case ha => exact ha.below HB2.out); rintro e w3 ⟨rfl, ⟨n3, rfl⟩⟩))
  all_goals
    go_ret2
    exact TakeIs.yes HE.out HZ.out (by omega) h2w HB2.out n3
end Go.Proofs.YtbpoapfkeinjnaaGreatDoor.Ld
namespace Go.Proofs.YtbpoapfkeinjnaaGreatDoor.Ld
set_option linter.unusedVariables false
set_option linter.unusedSimpArgs false

def tot (p : Nat → Pl) : Nat → Int
  | 0 => 0
  | n + 1 => tot p n + (p n).mem
theorem tot_upd_far (p : Nat → Pl) (i : Nat) (x : Pl) : ∀ n, n ≤ i → tot (upd p i x) n = tot p n
  | 0, _ => rfl
  | n + 1, h => by simp only [tot]; rw [tot_upd_far p i x n (by omega), upd_far _ _ _ (by omega)]
theorem tot_upd (p : Nat → Pl) (i : Nat) (x : Pl) : ∀ n, i < n → tot (upd p i x) n = tot p n - (p i).mem + x.mem
  | 0, h => by omega
  | n + 1, h => by
    simp only [tot]
    by_cases e : i = n
    · subst e; rw [tot_upd_far p i x i (Nat.le_refl _), upd_same]; omega
    · rw [tot_upd p i x n (by omega), upd_far _ _ _ (by omega)]; omega
theorem tot_pos (p : Nat → Pl) (h : ∀ i, 0 ≤ (p i).mem) : ∀ n, 0 ≤ tot p n
  | 0 => Int.le_refl _
  | n + 1 => by have := tot_pos p h n; have := h n; simp only [tot]; omega
theorem mem_le_tot (p : Nat → Pl) (h : ∀ i, 0 ≤ (p i).mem) : ∀ n i, i < n → (p i).mem ≤ tot p n
  | 0, i, hi => by omega
  | n + 1, i, hi => by
    simp only [tot]
    by_cases e : i = n
    · subst e; have := tot_pos p h i; omega
    · have := mem_le_tot p h n i (by omega); have := h n; omega
theorem tot_mono (p : Nat → Pl) (h : ∀ i, 0 ≤ (p i).mem) (n : Nat) : ∀ k, tot p n ≤ tot p (n + k)
  | 0 => Int.le_refl _
  | k + 1 => by have := tot_mono p h n k; have h3 := h (n + k); show _ ≤ tot p (n + k) + (p (n + k)).mem; omega
theorem tot_out (p : Nat → Pl) (n : Nat) (h : ∀ i, n ≤ i → (p i).mem = 0) : ∀ k, tot p (n + k) = tot p n
  | 0 => rfl
  | k + 1 => by show tot p (n + k) + (p (n + k)).mem = _; rw [tot_out p n h k, h (n + k) (by omega)]; omega
theorem tot_zero (p : Nat → Pl) : ∀ n, (∀ i, i < n → (p i).mem = 0) → tot p n = 0
  | 0, _ => rfl
  | n + 1, h => by simp only [tot]; rw [tot_zero p n (fun i hi => h i (by omega)), h n (by omega)]; omega

theorem cnt_upd_far (p : Nat → Pl) (i : Nat) (x : Pl) : ∀ n, n ≤ i → cntFree (upd p i x) n = cntFree p n
  | 0, _ => rfl
  | n + 1, h => by simp only [cntFree]; rw [cnt_upd_far p i x n (by omega), upd_far _ _ _ (by omega)]
theorem cnt_upd (p : Nat → Pl) (i : Nat) (x : Pl) : ∀ n, i < n → cntFree (upd p i x) n + (if (p i).held then 0 else 1) = cntFree p n + (if x.held then 0 else 1)
  | 0, h => by omega
  | n + 1, h => by
    simp only [cntFree]
    by_cases e : i = n
    · subst e; rw [cnt_upd_far p i x i (Nat.le_refl _), upd_same]; omega
    · have := cnt_upd p i x n (by omega); rw [upd_far _ _ _ (show n ≠ i by omega)]; omega
theorem cnt_zero (p : Nat → Pl) : ∀ n, cntFree p n = 0 → ∀ i, i < n → (p i).held = true
  | 0, _, i, hi => by omega
  | n + 1, h, i, hi => by
    simp only [cntFree] at h
    by_cases e : i = n
    · subst e
      cases hh : (p i).held
      · rw [hh] at h; simp at h
      · rfl
    · exact cnt_zero p n (by omega) i (by omega)
theorem cnt_pos (p : Nat → Pl) : ∀ n i, i < n → (p i).held = false → 0 < cntFree p n
  | 0, i, hi, _ => by omega
  | n + 1, i, hi, hh => by
    simp only [cntFree]
    by_cases e : i = n
    · subst e; rw [hh]; simp
    · have := cnt_pos p n i (by omega) hh; omega
theorem cnt_all (p : Nat → Pl) : ∀ n, (∀ i, i < n → (p i).held = false) → cntFree p n = n
  | 0, _ => rfl
  | n + 1, h => by simp only [cntFree]; rw [cnt_all p n (fun i hi => h i (by omega)), h n (by omega)]; simp

structure Inv (s : Led) : Prop where
  many : s.many ≤ 16
  used : s.used = tot s.p s.many
  le : s.used ≤ s.budget
  big : s.budget ≤ 9223372036854775807
  mem : ∀ i, 0 ≤ (s.p i).mem
  free : ∀ i, (s.p i).held = false → s.p i = nobody
  out : ∀ i, s.many ≤ i → s.p i = nobody
  uniq : ∀ i j, (s.p i).held = true → (s.p j).held = true → (s.p i).id = (s.p j).id → i = j
theorem Inv.pos {s : Led} (h : Inv s) : 0 ≤ s.used := by rw [h.used]; exact tot_pos _ h.mem _
theorem Inv.fits {s : Led} (h : Inv s) : Fits s :=
  ⟨h.many, fun i hi => ⟨h.mem i, by rw [h.used]; exact mem_le_tot _ h.mem _ _ hi⟩, h.pos, h.le, h.big⟩
theorem pos_nonneg (n : Int) : 0 ≤ Ld.pos n := by unfold Ld.pos; split <;> omega
theorem inv_fresh (b k : Int) (hb : b ≤ 9223372036854775807) : Inv (fresh b k) := by
  have hz : ∀ n, tot (fun _ => nobody) n = 0 := fun n => tot_zero _ n (fun i _ => rfl)
  refine ⟨?_, ?_, ?_, ?_, fun i => Int.le_refl _, fun i _ => rfl, fun i _ => rfl, fun i j h => ?_⟩
  · show (if 16 < Ld.pos k then 16 else Ld.pos k).toNat ≤ 16
    split <;> omega
  · exact (hz _).symm
  · exact pos_nonneg b
  · show Ld.pos b ≤ _; unfold Ld.pos; split <;> omega
  · exact absurd h (by simp [fresh, nobody])

theorem fnd_lt {q : Pl → Bool} {s : Led} {i : Nat} (h : fnd q s = (i : Int)) : i < s.many ∧ q (s.p i) = true ∧ ∀ j, j < i → q (s.p j) = false := by
  rcases fnd_cases q s with ⟨h1, _⟩ | ⟨k, h1, h2, h3, h4⟩
  · rw [h1] at h; omega
  · obtain rfl : k = i := by rw [h1] at h; omega
    exact ⟨h2, h3, h4⟩
theorem fnd_neg {q : Pl → Bool} {s : Led} (h : fnd q s < 0) : fnd q s = -1 ∧ ∀ i, i < s.many → q (s.p i) = false := by
  rcases fnd_cases q s with h1 | ⟨k, h1, h2, h3, h4⟩
  · exact h1
  · omega
theorem isOf_iff {id : Int} {p : Pl} : isOf id p = true ↔ p.held = true ∧ p.id = id := by unfold isOf; simp
theorem isOf_no {id : Int} {p : Pl} (h : isOf id p = false) : p.held = true → p.id ≠ id := by
  intro h1 h2; have := isOf_iff.2 ⟨h1, h2⟩; rw [h] at this; cases this
theorem fnd_of {s : Led} (hs : Inv s) {i : Nat} {id : Int} (h1 : (s.p i).held = true) (h2 : (s.p i).id = id) : fnd (isOf id) s = (i : Int) := by
  have hi : i < s.many := by
    rcases Nat.lt_or_ge i s.many with h | h
    · exact h
    · rw [hs.out i h] at h1; cases h1
  refine fnd_some hi (isOf_iff.2 ⟨h1, h2⟩) (fun j hj => ?_)
  cases hq : isOf id (s.p j)
  · rfl
  · have := isOf_iff.1 hq
    have := hs.uniq j i this.1 h1 (by rw [this.2, h2]); omega
theorem fnd_out {s : Led} (hs : Inv s) {id : Int} (h : ∀ i, (s.p i).held = true → (s.p i).id ≠ id) : fnd (isOf id) s = -1 := by
  refine fnd_none (fun i hi => ?_)
  cases hq : isOf id (s.p i)
  · rfl
  · have := isOf_iff.1 hq; exact absurd this.2 (h i this.1)
theorem fnd_out' {s : Led} (hs : Inv s) {id : Int} (h : fnd (isOf id) s < 0) : ∀ i, (s.p i).held = true → (s.p i).id ≠ id := by
  intro i h1 h2; rw [fnd_of hs h1 h2] at h; omega

theorem take_ok {s : Led} {id mem : Int} (h : takeErr s id mem = 0) : 0 ≤ id ∧ 0 ≤ mem ∧ mem ≤ s.budget ∧ fnd (isOf id) s < 0 ∧ (∃ i : Nat, fnd isFree s = (i : Int) ∧ i < s.many ∧ (s.p i).held = false ∧ (∀ j, j < i → (s.p j).held = true) ∧ takeSlot s id mem = (i : Int) ∧ takeSt s id mem = (s.put i ⟨true, id, mem⟩).uses (s.used + mem)) ∧ s.used + mem ≤ s.budget := by
  have h0 := h
  unfold takeErr at h
  split at h
  · omega
  · split at h
    · omega
    · split at h
      · omega
      · split at h
        · omega
        · rename_i h1 h2 h3 h4
          rcases fnd_cases isFree s with ⟨h5, _⟩ | ⟨i, h5, h6, h7, h8⟩
          · omega
          · refine ⟨by omega, by omega, by omega, by omega, ⟨i, h5, h6, by simpa [isFree] using h7, fun j hj => by simpa [isFree] using h8 j hj, ?_, ?_⟩, by omega⟩
            · unfold takeSlot; rw [if_pos h0, h5]
            · unfold takeSt; rw [if_pos h0, h5]; rfl
theorem take_no {s : Led} {id mem : Int} (h : takeErr s id mem ≠ 0) : takeSlot s id mem = 0 ∧ takeSt s id mem = s := by
  unfold takeSlot takeSt; rw [if_neg h, if_neg h]; exact ⟨rfl, rfl⟩
theorem inv_take {s : Led} (hs : Inv s) (id mem : Int) : Inv (takeSt s id mem) := by
  by_cases h : takeErr s id mem = 0
  · obtain ⟨a1, a2, a3, a4, ⟨i, b1, b2, b3, b4, b5, b6⟩, a5⟩ := take_ok h
    rw [b6]
    have hn := hs.free i b3
    have hold := fnd_out' hs a4
    refine ⟨hs.many, ?_, ?_, hs.big, fun k => ?_, fun k hk => ?_, fun k hk => ?_, fun j k hj hk e => ?_⟩
    · show s.used + mem = tot (upd s.p i _) s.many
      rw [tot_upd _ _ _ _ b2, hn, ← hs.used]; simp [nobody]
    · exact a5
    · show 0 ≤ (upd s.p i _ k).mem
      by_cases e : k = i
      · subst e; rw [upd_same]; exact a2
      · rw [upd_far _ _ _ e]; exact hs.mem k
    · have hk : (upd s.p i _ k).held = false := hk
      show upd s.p i _ k = nobody
      by_cases e : k = i
      · subst e; rw [upd_same] at hk; cases hk
      · rw [upd_far _ _ _ e] at hk ⊢; exact hs.free k hk
    · show upd s.p i _ k = nobody
      have : s.many ≤ k := hk
      rw [upd_far _ _ _ (by omega)]; exact hs.out k this
    · have hj : (upd s.p i ⟨true, id, mem⟩ j).held = true := hj
      have hk : (upd s.p i ⟨true, id, mem⟩ k).held = true := hk
      have e : (upd s.p i ⟨true, id, mem⟩ j).id = (upd s.p i ⟨true, id, mem⟩ k).id := e
      by_cases e1 : j = i <;> by_cases e2 : k = i
      · omega
      · subst e1; rw [upd_same, upd_far _ _ _ e2] at e; rw [upd_far _ _ _ e2] at hk; exact absurd e.symm (hold k hk)
      · subst e2; rw [upd_same, upd_far _ _ _ e1] at e; rw [upd_far _ _ _ e1] at hj; exact absurd e (hold j hj)
      · rw [upd_far _ _ _ e1, upd_far _ _ _ e2] at e; rw [upd_far _ _ _ e1] at hj; rw [upd_far _ _ _ e2] at hk; exact hs.uniq j k hj hk e
  · rw [(take_no h).2]; exact hs
theorem free_ok {s : Led} {id : Int} (h : freeErr s id = 0) : ∃ i : Nat, fnd (isOf id) s = (i : Int) ∧ i < s.many ∧ (s.p i).held = true ∧ (s.p i).id = id ∧ freeSt s id = (s.uses (s.used - (s.p i).mem)).put i nobody := by
  unfold freeErr at h
  split at h
  · omega
  · rcases fnd_cases (isOf id) s with ⟨h5, _⟩ | ⟨i, h5, h6, h7, h8⟩
    · omega
    · refine ⟨i, h5, h6, (isOf_iff.1 h7).1, (isOf_iff.1 h7).2, ?_⟩
      unfold freeSt; rw [h5, if_neg (by omega)]; rfl
theorem free_no {s : Led} {id : Int} (h : freeErr s id ≠ 0) : freeErr s id = 6 ∧ freeSt s id = s ∧ fnd (isOf id) s < 0 := by
  unfold freeErr at *
  unfold freeSt
  by_cases h1 : fnd (isOf id) s < 0
  · rw [if_pos h1, if_pos h1]; exact ⟨rfl, rfl, h1⟩
  · rw [if_neg h1] at h; exact absurd rfl h
theorem inv_free {s : Led} (hs : Inv s) (id : Int) : Inv (freeSt s id) := by
  by_cases h : freeErr s id = 0
  · obtain ⟨i, b1, b2, b3, b4, b6⟩ := free_ok h
    rw [b6]
    have hm := mem_le_tot _ hs.mem _ _ b2
    refine ⟨hs.many, ?_, ?_, hs.big, fun k => ?_, fun k hk => ?_, fun k hk => ?_, fun j k hj hk e => ?_⟩
    · show s.used - _ = tot (upd s.p i _) s.many
      rw [tot_upd _ _ _ _ b2, ← hs.used]; simp [nobody]
    · show s.used - (s.p i).mem ≤ s.budget
      have := hs.le; have := hs.mem i; omega
    · show 0 ≤ (upd s.p i _ k).mem
      by_cases e : k = i
      · subst e; rw [upd_same]; exact Int.le_refl _
      · rw [upd_far _ _ _ e]; exact hs.mem k
    · have hk : (upd s.p i _ k).held = false := hk
      show upd s.p i _ k = nobody
      by_cases e : k = i
      · subst e; rw [upd_same]
      · rw [upd_far _ _ _ e] at hk ⊢; exact hs.free k hk
    · show upd s.p i _ k = nobody
      have : s.many ≤ k := hk
      rw [upd_far _ _ _ (by omega)]; exact hs.out k this
    · have hj : (upd s.p i nobody j).held = true := hj
      have hk : (upd s.p i nobody k).held = true := hk
      have e : (upd s.p i nobody j).id = (upd s.p i nobody k).id := e
      by_cases e1 : j = i
      · subst e1; rw [upd_same] at hj; cases hj
      · by_cases e2 : k = i
        · subst e2; rw [upd_same] at hk; cases hk
        · rw [upd_far _ _ _ e1, upd_far _ _ _ e2] at e; rw [upd_far _ _ _ e1] at hj; rw [upd_far _ _ _ e2] at hk; exact hs.uniq j k hj hk e
  · rw [(free_no h).2.1]; exact hs
def step (s : Led) (kind id mem : Int) : Led := if kind = 3 then freeSt s id else takeSt s id mem
theorem inv_step {s : Led} (hs : Inv s) (kind id mem : Int) : Inv (step s kind id mem) := by
  unfold step; split
  · exact inv_free hs id
  · exact inv_take hs id mem
theorem take_many (s : Led) (id mem : Int) : (takeSt s id mem).many = s.many := by unfold takeSt; split <;> rfl
theorem free_many (s : Led) (id : Int) : (freeSt s id).many = s.many := by unfold freeSt; split <;> rfl
theorem take_budget (s : Led) (id mem : Int) : (takeSt s id mem).budget = s.budget := by unfold takeSt; split <;> rfl
theorem free_budget (s : Led) (id : Int) : (freeSt s id).budget = s.budget := by unfold freeSt; split <;> rfl
theorem step_many (s : Led) (kind id mem : Int) : (step s kind id mem).many = s.many := by unfold step; split <;> first | exact free_many _ _ | exact take_many _ _ _
theorem step_budget (s : Led) (kind id mem : Int) : (step s kind id mem).budget = s.budget := by unfold step; split <;> first | exact free_budget _ _ | exact take_budget _ _ _
end Go.Proofs.YtbpoapfkeinjnaaGreatDoor.Ld
namespace Go.Proofs.YtbpoapfkeinjnaaGreatDoor.Ld
set_option linter.unusedVariables false
set_option linter.unusedSimpArgs false

theorem i64_range {a : Int} (h : (Go.Lit.int .i64 a).wf = true) : -9223372036854775808 ≤ a ∧ a ≤ 9223372036854775807 := by
  have h : (decide ((-9223372036854775808 : Int) ≤ a) && decide (a ≤ 9223372036854775807)) = true := h
  simpa using h
theorem slotB_true {s : Led} {id : Int} {i : Nat} (h : fnd (isOf id) s = (i : Int)) : slotB s id = true ∧ slotI s id = (i : Int) := by
  unfold slotB slotI; rw [h]; exact ⟨decide_eq_true (by omega), if_neg (by omega)⟩
theorem slotB_false {s : Led} {id : Int} (h : fnd (isOf id) s < 0) : slotB s id = false ∧ slotI s id = 0 := by
  unfold slotB slotI; exact ⟨decide_eq_false (by omega), if_pos h⟩
theorem slotB_iff {s : Led} {id : Int} : slotB s id = true ↔ 0 ≤ fnd (isOf id) s := by unfold slotB; simp
theorem freeErr_iff {s : Led} {id : Int} : freeErr s id = 0 ↔ slotB s id = true := by
  rw [slotB_iff]; unfold freeErr
  split <;> omega
theorem put_p (s : Led) (i : Nat) (x : Pl) (k : Nat) : (s.put i x).p k = if k = i then x else s.p k := rfl
theorem slots_put {s : Led} {i : Nat} (x : Pl) (h : i < s.many) : slots (s.put i x) + (if (s.p i).held then 0 else 1) = slots s + (if x.held then 0 else 1) := by
  have := cnt_upd s.p i x s.many h
  show ((cntFree (upd s.p i x) s.many : Nat) : Int) + _ = (cntFree s.p s.many : Int) + _
  split <;> split <;> simp_all <;> omega
theorem slots_uses (s : Led) (n : Int) : slots (s.uses n) = slots s := rfl
theorem slots_le {s : Led} (hs : Inv s) : 0 ≤ slots s ∧ slots s ≤ 16 := by
  have := cntFree_le s.p s.many; have := hs.many; unfold slots; omega

structure Took (s : Led) (id mem : Int) (i : Nat) : Prop where
  has : slotB s id = false
  slot : takeSlot s id mem = (i : Int)
  lt : i < s.many
  was : s.p i = nobody
  low : ∀ j, j < i → (s.p j).held = true
  st : takeSt s id mem = (s.put i ⟨true, id, mem⟩).uses (s.used + mem)
  id0 : 0 ≤ id
  mem0 : 0 ≤ mem
  room : s.used + mem ≤ s.budget
  isThere : slotB (takeSt s id mem) id = true ∧ slotI (takeSt s id mem) id = (i : Int)
  used : (takeSt s id mem).used = s.used + mem
  slots : slots (takeSt s id mem) = slots s - 1
theorem took {s : Led} (hs : Inv s) {id mem : Int} (h : takeErr s id mem = 0) : ∃ i, Took s id mem i := by
  obtain ⟨a1, a2, a3, a4, ⟨i, b1, b2, b3, b4, b5, b6⟩, a5⟩ := take_ok h
  refine ⟨i, (slotB_false a4).1, b5, b2, hs.free i b3, b4, b6, a1, a2, a5, ?_, ?_, ?_⟩
  · have hs' := inv_take hs id mem
    rw [b6] at hs' ⊢
    refine slotB_true (fnd_of hs' ?_ ?_)
    · show (upd s.p i _ i).held = true; rw [upd_same]
    · show (upd s.p i _ i).id = id; rw [upd_same]
  · rw [b6]; rfl
  · rw [b6, slots_uses]
    have := slots_put (s := s) (i := i) ⟨true, id, mem⟩ b2
    rw [b3] at this; simp at this; omega
structure Freed (s : Led) (id : Int) (i : Nat) : Prop where
  lt : i < s.many
  was : (s.p i).held = true ∧ (s.p i).id = id
  st : freeSt s id = (s.uses (s.used - (s.p i).mem)).put i nobody
  used : (freeSt s id).used = s.used - (s.p i).mem
  slots : slots (freeSt s id) = slots s + 1
  slot : slotI s id = (i : Int)
theorem freed {s : Led} (hs : Inv s) {id : Int} (h : freeErr s id = 0) : ∃ i, Freed s id i := by
  obtain ⟨i, b1, b2, b3, b4, b6⟩ := free_ok h
  refine ⟨i, b2, ⟨b3, b4⟩, b6, by rw [b6]; rfl, ?_, (slotB_true b1).2⟩
  rw [b6]
  have := slots_put (s := s.uses (s.used - (s.p i).mem)) (i := i) nobody b2
  rw [show ((s.uses (s.used - (s.p i).mem)).p i).held = true from b3, slots_uses] at this
  simp [nobody] at this; exact this
theorem atB_in {s : Led} {i : Nat} (h : i < s.many) : atB s (i : Int) = (s.p i).held ∧ atI s (i : Int) = (s.p i).id := by
  unfold atB atI; rw [if_pos ⟨by omega, by omega⟩, if_pos ⟨by omega, by omega⟩]; exact ⟨rfl, rfl⟩
theorem atB_out {s : Led} {k : Int} (h : ¬ (0 ≤ k ∧ k < s.many)) : atB s k = false ∧ atI s k = 0 := by
  unfold atB atI; rw [if_neg h, if_neg h]; exact ⟨rfl, rfl⟩

theorem took_freed {s : Led} (hs : Inv s) {id mem : Int} {i : Nat} (h : Took s id mem i) : freeErr (takeSt s id mem) id = 0 ∧ atB (freeSt (takeSt s id mem) id) (i : Int) = false ∧ (freeSt (takeSt s id mem) id).used = s.used ∧ slots (freeSt (takeSt s id mem) id) = slots s := by
  have hs' := inv_take hs id mem
  have e0 := freeErr_iff.2 h.isThere.1
  obtain ⟨k, hk⟩ := freed hs' e0
  have hki : k = i := by have := hk.slot; rw [h.isThere.2] at this; omega
  subst hki
  have hm : (takeSt s id mem).many = s.many := take_many s id mem
  refine ⟨e0, ?_, ?_, ?_⟩
  · have hlt : k < (freeSt (takeSt s id mem) id).many := by rw [free_many, hm]; exact h.lt
    rw [(atB_in hlt).1, hk.st]
    show (upd _ k nobody k).held = false
    rw [upd_same]; rfl
  · rw [hk.used, h.used, h.st]
    show s.used + mem - (upd s.p k _ k).mem = s.used
    rw [upd_same]; simp
  · rw [hk.slots, h.slots]; omega

theorem atB_held {s : Led} (hs : Inv s) (k : Nat) : atB s (k : Int) = (s.p k).held := by
  by_cases h : k < s.many
  · exact (atB_in h).1
  · rw [(atB_out (by omega)).1, hs.out k (by omega)]; rfl
theorem atI_id {s : Led} (hs : Inv s) (k : Nat) : atI s (k : Int) = (s.p k).id := by
  by_cases h : k < s.many
  · exact (atB_in h).2
  · rw [(atB_out (by omega)).2, hs.out k (by omega)]; rfl
theorem empties {s : Led} (hs : Inv s) {k : Nat} (h : (s.p k).held = true) : freeErr s (s.p k).id = 0 ∧ ∀ m, ((freeSt s (s.p k).id).p m).held = true → (s.p m).held = true ∧ m ≠ k := by
  have e0 : freeErr s (s.p k).id = 0 := freeErr_iff.2 (slotB_true (fnd_of hs h rfl)).1
  obtain ⟨i, hf⟩ := freed hs e0
  have hik : i = k := hs.uniq i k hf.was.1 h hf.was.2
  subst hik
  refine ⟨e0, fun m hm => ?_⟩
  rw [hf.st] at hm
  have hm : (upd s.p i nobody m).held = true := hm
  by_cases e : m = i
  · subst e; rw [upd_same] at hm; cases hm
  · rw [upd_far _ _ _ e] at hm; exact ⟨hm, e⟩
theorem empty_led {s : Led} (hs : Inv s) (h : ∀ i, i < 16 → (s.p i).held = false) : s.used = 0 ∧ slots s = (s.many : Int) ∧ takeSlot s 7 s.budget = 0 ∧ (0 < s.many → takeErr s 7 s.budget = 0) ∧ (s.many = 0 → takeErr s 7 s.budget = 4) := by
  have hno : ∀ i, s.p i = nobody := fun i => by
    by_cases hi : i < 16
    · exact hs.free i (h i hi)
    · exact hs.out i (by have := hs.many; omega)
  have hu : s.used = 0 := by rw [hs.used]; exact tot_zero _ _ (fun i _ => by rw [hno i]; rfl)
  have hf : fnd (isOf 7) s = -1 := fnd_none (fun i _ => by rw [hno i]; rfl)
  have hb : 0 ≤ s.budget := by have := hs.le; omega
  have hE : takeErr s 7 s.budget = if fnd isFree s < 0 then 4 else 0 := by
    unfold takeErr
    rw [if_neg (by omega), if_neg (by omega), hf, if_neg (by omega), hu]
    by_cases h1 : fnd isFree s < 0
    · rw [if_pos (.inl h1), if_pos h1]
    · rw [if_neg (by omega), if_neg h1]
  have hpos : 0 < s.many → fnd isFree s = ((0 : Nat) : Int) := fun hm => fnd_some hm (by rw [hno 0]; rfl) (fun j hj => by omega)
  have hzero : s.many = 0 → fnd isFree s = -1 := fun hm => fnd_none (fun i hi => by omega)
  refine ⟨hu, ?_, ?_, ?_, ?_⟩
  · unfold slots; rw [cnt_all _ _ (fun i _ => by rw [hno i]; rfl)]
  · by_cases h0 : takeErr s 7 s.budget = 0
    · unfold takeSlot
      rw [if_pos h0]
      rcases Nat.eq_zero_or_pos s.many with hm | hm
      · rw [hE, hzero hm] at h0; simp at h0
      · rw [hpos hm]; rfl
    · exact (take_no h0).1
  · intro hm; rw [hE, hpos hm]; rfl
  · intro hm; rw [hE, hzero hm]; rfl
theorem fresh_many (b k : Int) : ((fresh b k).many : Int) = if 16 < Ld.pos k then 16 else Ld.pos k := by
  have := pos_nonneg k
  show (((if 16 < Ld.pos k then 16 else Ld.pos k).toNat : Nat) : Int) = _
  split <;> omega
end Go.Proofs.YtbpoapfkeinjnaaGreatDoor.Ld
