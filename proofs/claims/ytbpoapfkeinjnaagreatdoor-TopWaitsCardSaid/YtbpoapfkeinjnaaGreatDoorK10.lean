/- The engine of the yard and what it leans on, part 10. -/
import Derived.Test.YtbpoapfkeinjnaaGreatDoorK09
namespace Go.Proofs.YtbpoapfkeinjnaaGreatDoor.Ld
open Go.RowKit Go.Proofs.YtbpoapfkeinjnaaGreatDoorW.PrintWords Go.Proofs.YtbpoapfkeinjnaaGreatDoorW.PrintLast Go.Proofs.YtbpoapfkeinjnaaGreatDoorW.PrintMore
set_option linter.unusedVariables false
set_option linter.unusedSimpArgs false
attribute [local go_sem] max2_int min2_int max_two min_two
set_option maxHeartbeats 8000000 in
set_option maxRecDepth 100000 in
theorem down_calls (S : Nat → Prop) (h : Nat) (p : Hp) (i0 n : Nat) (w : World) (H : HpAt S w h p) (hv : HpInv p) (hnl : n ≤ p.l.length) (hi0 : i0 ≤ 1000) (hn : p.at_.length ≤ 1000) (hln : p.l.length ≤ 1000) :
    Calls Tryz.prog 156 #[.iface 183 (.pointer (some ⟨h, 0, none⟩)), .int .i64 (i0 : Int), .int .i64 (n : Int)] w fun e w' => ∃ b, e = .returned (.bool b) ∧ (∃ q, Rel n p q ∧ HpAt S w' h q) ∧ Chg S w w' := by
  have HH := Aside0.mk H
  have HV := Aside0.mk hv
  clear H hv
  have mL := m_Less h
  have mS := m_Swap h
  go_enter Tryz.func156, Tryz.ntmps156
  go_upto_block 0 with (fail)
  go_cut [7] (fun v7 wc => Aside0 (∃ i : Nat, v7 = .int .i64 (i : Int) ∧ (∃ q, Rel n p q ∧ HpAt S wc h q) ∧ Chg S w wc))
  case first =>
    go_wp2
    go_loopg [7] (n + 1001 - i0) (fun kq v wr => ∃ i : Nat, v = .int .i64 (i : Int) ∧ Aside0 (kq + i = n + 1001 ∧ (i ≤ 1000 ∨ i < n) ∧ (∃ q, Rel n p q ∧ HpAt S wr h q) ∧ Chg S w wr))
    case atStart => exact ⟨i0, rfl, ⟨by omega, .inl hi0, ⟨p, Rel.refl HV.out n, HH.out⟩, Chg.refl S w⟩⟩
    case round =>
      obtain ⟨i, rfl, hA⟩ := hrel
      obtain ⟨hk, hi, ⟨q, hr, hq⟩, hc⟩ := hA.out
      have HQ := Aside0.mk hq
      have HR := Aside0.mk hr
      have HC := Aside0.mk hc
      clear hA hq hr hc
      obtain ⟨j, hj⟩ : ∃ j : Nat, 2 * (i : Int) + 1 = (j : Int) := ⟨2 * i + 1, by omega⟩
      have hij : i < j := by omega
      by_cases h1 : j < n
      · have hnot : decide ((n : Int) ≤ (j : Int)) = false := decide_eq_false (by omega)
        have hil : i < q.l.length := by rw [HR.out.ll]; omega
        have hjl : j < q.l.length := by rw [HR.out.ll]; omega
        have hn1 : q.at_.length ≤ 1000 := by rw [HR.out.la]; exact hn
        have hl1 : q.l.length ≤ 1000 := by rw [HR.out.ll]; exact hln
        obtain ⟨k, hk2⟩ : ∃ k : Nat, (j : Int) + 1 = (k : Int) := ⟨j + 1, by omega⟩
        by_cases h2 : k < n
        · have hkl : k < q.l.length := by rw [HR.out.ll]; omega
          go_wp2_with (first
            | (go_at_call 199; (with_reducible refine (HLess_calls S h q k j _ HQ.out HR.out.inv hkl hjl hn1 hl1).mono ?_); rintro e w2 ⟨b, rfl, hd⟩; have HD := Aside0.mk hd; have HQ2 := Aside0.mk (HQ.out.keep (Keep.of_below hd.below)); clear hd)
            | (go_at_call 199; (with_reducible refine (HLess_calls S h q k i _ HQ2.out HR.out.inv hkl hil hn1 hl1).mono ?_); rintro e w3 ⟨b3, rfl, hd⟩; have HD3 := Aside0.mk (drawnT HD.out hd); have HQ3 := Aside0.mk (HQ2.out.keep (Keep.of_below hd.below)); clear hd)
            | (go_at_call 199; (with_reducible refine (HLess_calls S h q j i _ HQ2.out HR.out.inv hjl hil hn1 hl1).mono ?_); rintro e w3 ⟨b3, rfl, hd⟩; have HD3 := Aside0.mk (drawnT HD.out hd); have HQ3 := Aside0.mk (HQ2.out.keep (Keep.of_below hd.below)); clear hd)
            | (go_at_call 202; (with_reducible refine (HSwap_calls S h q i j _ HQ3.out HR.out.inv hil hjl hn1 hl1).mono ?_); rintro e w4 ⟨rfl, hs, hc4⟩; have HS := Aside0.mk hs; have HC4 := Aside0.mk hc4; clear hs hc4)
            | (go_at_call 202; (with_reducible refine (HSwap_calls S h q i k _ HQ3.out HR.out.inv hil hkl hn1 hl1).mono ?_); rintro e w4 ⟨rfl, hs, hc4⟩; have HS := Aside0.mk hs; have HC4 := Aside0.mk hc4; clear hs hc4))
          all_goals first
            | (go_roundg (n + 1001 - j)
               case measure => omega
               case rel => exact ⟨j, rfl, ⟨by omega, .inr h1, ⟨_, HR.out.trans (swap_rel HR.out.inv hil hjl (by omega) (by omega)), HS.out⟩, (HC.out.trans (Chg.of_drawn HD3.out)).trans HC4.out⟩⟩)
            | (go_roundg (n + 1001 - k)
               case measure => omega
               case rel => exact ⟨k, rfl, ⟨by omega, .inr h2, ⟨_, HR.out.trans (swap_rel HR.out.inv hil hkl (by omega) (by omega)), HS.out⟩, (HC.out.trans (Chg.of_drawn HD3.out)).trans HC4.out⟩⟩)
            | (go_meet
               exact ⟨⟨i, rfl, ⟨q, HR.out, HQ3.out⟩, HC.out.trans (Chg.of_drawn HD3.out)⟩⟩)
        · have hnot2 : decide ((k : Int) < (n : Int)) = false := decide_eq_false (by omega)
          go_wp2_with (first
            | (go_at_call 199; (with_reducible refine (HLess_calls S h q j i _ HQ.out HR.out.inv hjl hil hn1 hl1).mono ?_); rintro e w3 ⟨b3, rfl, hd⟩; have HD3 := Aside0.mk hd; have HQ3 := Aside0.mk (HQ.out.keep (Keep.of_below hd.below)); clear hd)
            | (go_at_call 202; (with_reducible refine (HSwap_calls S h q i j _ HQ3.out HR.out.inv hil hjl hn1 hl1).mono ?_); rintro e w4 ⟨rfl, hs, hc4⟩; have HS := Aside0.mk hs; have HC4 := Aside0.mk hc4; clear hs hc4))
          all_goals first
            | (go_roundg (n + 1001 - j)
               case measure => omega
               case rel => exact ⟨j, rfl, ⟨by omega, .inr h1, ⟨_, HR.out.trans (swap_rel HR.out.inv hil hjl (by omega) (by omega)), HS.out⟩, (HC.out.trans (Chg.of_drawn HD3.out)).trans HC4.out⟩⟩)
            | (go_meet
               exact ⟨⟨i, rfl, ⟨q, HR.out, HQ3.out⟩, HC.out.trans (Chg.of_drawn HD3.out)⟩⟩)
      · have hyes : decide ((n : Int) ≤ (j : Int)) = true := decide_eq_true (by omega)
        go_wp2
        go_meet
        exact ⟨⟨i, rfl, ⟨q, HR.out, HQ.out⟩, HC.out⟩⟩
  case rest =>
    obtain ⟨i, rfl, h1, h2⟩ := hcut.out
    have H1 := Aside0.mk h1
    have H2 := Aside0.mk h2
    clear hcut h1 h2
    go_wp2
    go_ret
    exact ⟨_, rfl, H1.out, H2.out⟩
end Go.Proofs.YtbpoapfkeinjnaaGreatDoor.Ld
namespace Go.Proofs.YtbpoapfkeinjnaaGreatDoor.Ld
open Go.RowKit Go.Proofs.YtbpoapfkeinjnaaGreatDoorW.PrintWords Go.Proofs.YtbpoapfkeinjnaaGreatDoorW.PrintLast Go.Proofs.YtbpoapfkeinjnaaGreatDoorW.PrintMore
set_option linter.unusedVariables false
set_option linter.unusedSimpArgs false
attribute [local go_sem] max2_int min2_int max_two min_two
def Hp.on (p : Hp) (j : Nat) : Prop := 0 ≤ p.at_.getD j 0
structure AddRel (p q : Hp) (x : Nat) : Prop where
  keys : q.keys = p.keys
  la : q.at_.length = p.at_.length
  inv : HpInv q
  on : ∀ j, j < p.at_.length → (q.on j ↔ p.on j ∨ j = x)
structure DelRel (p q : Hp) (x : Nat) : Prop where
  keys : q.keys = p.keys
  la : q.at_.length = p.at_.length
  inv : HpInv q
  on : ∀ j, j < p.at_.length → (q.on j ↔ p.on j ∧ j ≠ x)
theorem getD_app (l : List Int) (x : Int) (m : Nat) : (l ++ [x]).getD m 0 = if m < l.length then l.getD m 0 else if m = l.length then x else 0 := by
  rw [List.getD_eq_getElem?_getD, List.getD_eq_getElem?_getD]
  by_cases h : m < l.length
  · rw [if_pos h, List.getElem?_append_left h]
  · rw [if_neg h, List.getElem?_append_right (by omega)]
    by_cases h2 : m = l.length
    · subst h2; simp
    · rw [if_neg h2, List.getElem?_eq_none (by simp; omega)]; rfl
theorem getD_take (l : List Int) (n m : Nat) (h : m < n) : (l.take n).getD m 0 = l.getD m 0 := by
  rw [List.getD_eq_getElem?_getD, List.getD_eq_getElem?_getD, List.getElem?_take, if_pos h]
theorem push_rel {p : Hp} (h : HpInv p) {x : Nat} (hx : x < p.at_.length) (hn : ¬ p.on x) : AddRel p (pushH p x) x := by
  have hA : ∀ j, (pushH p x).at_.getD j 0 = if j = x then (p.l.length : Int) else p.at_.getD j 0 := fun j => getD_set' hx
  have hL : ∀ m, (pushH p x).l.getD m 0 = if m < p.l.length then p.l.getD m 0 else if m = p.l.length then (x : Int) else 0 := fun m => getD_app _ _ _
  have hal : (pushH p x).at_.length = p.at_.length := by simp [pushH]
  have hll : (pushH p x).l.length = p.l.length + 1 := by simp [pushH]
  refine ⟨rfl, hal, ⟨by rw [hal]; exact h.len, fun m hm => ?_, fun j hj => ?_, ?_⟩, fun j hj => ?_⟩
  · rw [hll] at hm
    rw [hL]
    by_cases h1 : m < p.l.length
    · rw [if_pos h1]
      obtain ⟨z, hz, hzn, hza⟩ := h.l1 m h1
      refine ⟨z, hz, by omega, ?_⟩
      rw [hA, if_neg (fun e => by subst e; exact hn (by unfold Hp.on; omega))]
      exact hza
    · rw [if_neg h1, if_pos (by omega)]
      exact ⟨x, rfl, by omega, by rw [hA, if_pos rfl]; omega⟩
  · rw [hal] at hj
    rw [hA]
    by_cases h1 : j = x
    · right; rw [if_pos h1]
      exact ⟨p.l.length, by omega, rfl, by rw [hL, if_neg (by omega), if_pos rfl, h1]⟩
    · rw [if_neg h1]
      rcases h.l2 j hj with h2 | ⟨i, hi, hi1, hi2⟩
      · exact .inl h2
      · exact .inr ⟨i, by omega, hi1, by rw [hL, if_pos hi]; exact hi2⟩
  · rw [hll, hal, h.cnt]
    refine (sumTo_one hx ?_ fun j hj hne => ?_).symm
    · unfold onN
      rw [hA, if_pos rfl, if_neg (show ¬ 0 ≤ p.at_.getD x 0 from hn), if_pos (by omega)]
    · unfold onN
      rw [hA, if_neg hne]
  · unfold Hp.on
    rw [hA]
    by_cases h1 : j = x
    · rw [if_pos h1]; exact ⟨fun _ => .inr h1, fun _ => by omega⟩
    · rw [if_neg h1]; exact ⟨fun e => .inl e, fun e => e.resolve_right h1⟩
theorem pop_rel {p : Hp} (h : HpInv p) {L x : Nat} (hL1 : p.l.length = L + 1) (hlx : p.l.getD L 0 = (x : Int)) : x < p.at_.length ∧ DelRel p (popH p x) x := by
  obtain ⟨z, hz, hx, hxa⟩ := h.l1 L (by omega)
  obtain rfl : z = x := by omega
  have hA : ∀ j, (popH p z).at_.getD j 0 = if j = z then -1 else p.at_.getD j 0 := fun j => getD_set' hx
  have hal : (popH p z).at_.length = p.at_.length := by simp [popH]
  have hll : (popH p z).l.length = L := by simp [popH, hL1]
  have hL : ∀ m, m < L → (popH p z).l.getD m 0 = p.l.getD m 0 := fun m hm => getD_take _ _ _ (by omega)
  refine ⟨hx, rfl, hal, ⟨by rw [hal]; exact h.len, fun m hm => ?_, fun j hj => ?_, ?_⟩, fun j hj => ?_⟩
  · rw [hll] at hm
    rw [hL m hm]
    obtain ⟨y, hy, hyn, hya⟩ := h.l1 m (by omega)
    refine ⟨y, hy, by omega, ?_⟩
    rw [hA, if_neg (fun e => by subst e; omega)]
    exact hya
  · rw [hal] at hj
    rw [hA]
    by_cases h1 : j = z
    · left; rw [if_pos h1]
    · rw [if_neg h1]
      rcases h.l2 j hj with h2 | ⟨i, hi, hi1, hi2⟩
      · exact .inl h2
      · refine .inr ⟨i, ?_, hi1, ?_⟩
        · rw [hll]
          have : i ≠ L := fun e => by subst e; omega
          omega
        · have : i ≠ L := fun e => by subst e; omega
          rw [hL i (by omega)]; exact hi2
  · rw [hll, hal]
    have := sumTo_one (f := onN (popH p z)) (g := onN p) hx (by unfold onN; rw [hA, if_pos rfl, if_pos (show 0 ≤ p.at_.getD z 0 by omega)]; rfl) (fun j hj hne => by unfold onN; rw [hA, if_neg hne])
    have h2 := h.cnt
    omega
  · unfold Hp.on
    rw [hA]
    by_cases h1 : j = z
    · rw [if_pos h1]; exact ⟨fun e => by omega, fun e => absurd h1 e.2⟩
    · rw [if_neg h1]; exact ⟨fun e => ⟨e, h1⟩, fun e => e.1⟩
theorem Rel.add {n : Nat} {p q r : Hp} {x : Nat} (h : AddRel p q x) (k : Rel n q r) : AddRel p r x :=
  ⟨k.keys.trans h.keys, k.la.trans h.la, k.inv, fun j hj => (k.on j (by rw [h.la]; exact hj)).trans (h.on j hj)⟩
theorem Rel.del {n : Nat} {p q r : Hp} {x : Nat} (h : Rel n p q) (k : DelRel q r x) : DelRel p r x :=
  ⟨k.keys.trans h.keys, k.la.trans h.la, k.inv, fun j hj => (k.on j (by rw [h.la]; exact hj)).trans ⟨fun e => ⟨(h.on j hj).1 e.1, e.2⟩, fun e => ⟨(h.on j hj).2 e.1, e.2⟩⟩⟩

set_option maxHeartbeats 8000000 in
set_option maxRecDepth 100000 in
theorem cPush_calls (S : Nat → Prop) (h : Nat) (p : Hp) (x : Nat) (w : World) (H : HpAt S w h p) (hv : HpInv p) (hx : x < p.at_.length) (hon : ¬ p.on x) (hn : p.at_.length ≤ 800) :
    Calls Tryz.prog 162 #[.iface 183 (.pointer (some ⟨h, 0, none⟩)), .iface 3 (.int .i64 (x : Int))] w fun e w' => e = .returned (.tuple #[]) ∧ (∃ q, AddRel p q x ∧ HpAt (up S w w') w' h q) ∧ Chg S w w' := by
  have HH := Aside0.mk H
  have hle := hv.le
  have HA := Aside0.mk (push_rel hv hx hon)
  have hll : (pushH p x).l.length = p.l.length + 1 := by simp [pushH]
  have HL := Aside0.mk hll
  clear H hv hon hll
  have mU := m_Push h
  have mL := m_Len h
  go_enter Tryz.func162, Tryz.ntmps162
  go_wp2_with (first
    | (go_at_call 201; (with_reducible refine (HPush_calls S h p x _ HH.out hx (by omega) (by omega)).mono ?_); rintro e w1 ⟨rfl, h1, hc1⟩; have H1 := Aside0.mk h1; have HC1 := Aside0.mk hc1; clear h1 hc1)
    | (go_at_call 198; (with_reducible refine (HLen_calls (up S w w1) h (pushH p x) _ H1.out).mono ?_); rintro e w2 ⟨rfl, hd⟩; rw [HL.out]; have HD := Aside0.mk hd; have H2 := Aside0.mk (H1.out.keep (Keep.of_below hd.below)); clear hd)
    | (go_at_call 172; (with_reducible refine (up_calls (up S w w1) h (pushH p x) p.l.length (p.l.length + 1) _ H2.out HA.out.inv (by omega) (by rw [HL.out]; omega) (by rw [HA.out.la]; omega) (by rw [HL.out]; omega)).mono ?_); rintro e w3 ⟨rfl, ⟨q, hr, hq⟩, hc3⟩; have HR := Aside0.mk hr; have HQ := Aside0.mk hq; have HC3 := Aside0.mk hc3; clear hr hq hc3))
  go_end0
  have s1 := HC1.out.size
  have s2 := HD.out.below.size
  have s3 := HC3.out.size
  refine ⟨rfl, ⟨q, Rel.add HA.out HR.out, HQ.out.mono fun k _ hk => ?_⟩, HC1.out.then_up ((Chg.of_drawn HD.out).trans HC3.out)⟩
  rcases hk with hk | hk
  · exact .inl hk
  · exact .inr ⟨hk.1, by omega⟩
theorem HSwap_zero (S : Nat → Prop) (h : Nat) (p : Hp) (k : Nat) (w : World) (H : HpAt S w h p) (hv : HpInv p) (hi : 0 < p.l.length) (hk : k < p.l.length) (hn : p.at_.length ≤ 1000) (hln : p.l.length ≤ 1000) :
    Calls Tryz.prog 202 #[.pointer (some ⟨h, 0, none⟩), .int .i64 0, .int .i64 (k : Int)] w fun e w' => e = .returned (.tuple #[]) ∧ HpAt S w' h (swapL p 0 k) ∧ Chg S w w' := HSwap_calls S h p 0 k w H hv hi hk hn hln
theorem down_zero (S : Nat → Prop) (h : Nat) (p : Hp) (n : Nat) (w : World) (H : HpAt S w h p) (hv : HpInv p) (hnl : n ≤ p.l.length) (hn : p.at_.length ≤ 1000) (hln : p.l.length ≤ 1000) :
    Calls Tryz.prog 156 #[.iface 183 (.pointer (some ⟨h, 0, none⟩)), .int .i64 0, .int .i64 (n : Int)] w fun e w' => ∃ b, e = .returned (.bool b) ∧ (∃ q, Rel n p q ∧ HpAt S w' h q) ∧ Chg S w w' := down_calls S h p 0 n w H hv hnl (by omega) hn hln

set_option maxHeartbeats 8000000 in
set_option maxRecDepth 100000 in
theorem cPop_calls (S : Nat → Prop) (h : Nat) (p : Hp) (L x : Nat) (w : World) (H : HpAt S w h p) (hv : HpInv p) (hL : p.l.length = L + 1) (hx : p.l.getD 0 0 = (x : Int)) (hn : p.at_.length ≤ 800) :
    Calls Tryz.prog 127 #[.iface 183 (.pointer (some ⟨h, 0, none⟩))] w fun e w' => e = .returned (.iface 3 (.int .i64 (x : Int))) ∧ (∃ q, DelRel p q x ∧ HpAt S w' h q) ∧ Chg S w w' := by
  have HH := Aside0.mk H
  have HV := Aside0.mk hv
  have hle := hv.le
  have HLn := Aside0.mk hL
  rw [hL] at hle
  have hsw : (swapL p 0 L).l.getD L 0 = (x : Int) := by
    show ((p.l.set 0 (p.l.getD L 0)).set L (p.l.getD 0 0)).getD L 0 = _
    rw [getD_set' (by simp; omega), if_pos rfl, hx]
  have HSW := Aside0.mk hsw
  have HSR := Aside0.mk (swap_rel hv (n := L + 1) (i := 0) (k := L) (by omega) (by omega) (by omega) (by omega))
  have hsl : (swapL p 0 L).l.length = L + 1 := by rw [HSR.out.ll, hL]
  have HSL := Aside0.mk hsl
  clear H hv hL hx hsw hsl
  have mP := m_Pop h
  have mL := m_Len h
  have mS := m_Swap h
  go_enter Tryz.func127, Tryz.ntmps127
  go_wp2_with (first
    | (go_at_call 198; (with_reducible refine (HLen_calls S h p _ HH.out).mono ?_); rintro e w2 ⟨rfl, hd⟩; rw [HLn.out]; have HD := Aside0.mk hd; have H2 := Aside0.mk (HH.out.keep (Keep.of_below hd.below)); clear hd)
    | (go_at_call 202; (with_reducible refine (HSwap_zero S h p L _ H2.out HV.out (by rw [HLn.out]; omega) (by rw [HLn.out]; omega) (by omega) (by rw [HLn.out]; omega)).mono ?_); rintro e w3 ⟨rfl, hs, hc3⟩; have HS := Aside0.mk hs; have HC3 := Aside0.mk hc3; clear hs hc3)
    | (go_at_call 156; (with_reducible refine (down_zero S h (swapL p 0 L) L _ HS.out HSR.out.inv (by rw [HSL.out]; omega) (by rw [HSR.out.la]; omega) (by rw [HSL.out]; omega)).mono ?_); rintro e w4 ⟨b, rfl, ⟨q, hr, hq⟩, hc4⟩; have HR := Aside0.mk hr; have HQ := Aside0.mk hq; have HC4 := Aside0.mk hc4; have hpx := pop_rel (x := x) hr.inv (L := L) (by rw [hr.ll, HSL.out]) (by rw [hr.high L (Nat.le_refl _), HSW.out]); have HPX := Aside0.mk hpx; clear hr hq hc4 hpx)
    | (go_at_call 200; (with_reducible refine (HPopR_calls S h q L x _ HQ.out (by rw [HR.out.ll, HSL.out]) (by rw [HR.out.high L (Nat.le_refl _), HSW.out]) HPX.out.1 (by rw [HR.out.la, HSR.out.la]; omega) (by omega)).mono ?_); rintro e w5 ⟨rfl, h5, hc5⟩; have H5 := Aside0.mk h5; have HC5 := Aside0.mk hc5; clear h5 hc5))
  go_ret
  exact ⟨rfl, ⟨_, Rel.del HSR.out (Rel.del HR.out HPX.out.2), H5.out⟩, (((Chg.of_drawn HD.out).trans HC3.out).trans HC4.out).trans HC5.out⟩
end Go.Proofs.YtbpoapfkeinjnaaGreatDoor.Ld
namespace Go.Proofs.YtbpoapfkeinjnaaGreatDoor.Ld
open Go.RowKit Go.Proofs.YtbpoapfkeinjnaaGreatDoorW.PrintWords Go.Proofs.YtbpoapfkeinjnaaGreatDoorW.PrintLast Go.Proofs.YtbpoapfkeinjnaaGreatDoorW.PrintMore
set_option linter.unusedVariables false
set_option linter.unusedSimpArgs false
attribute [local go_sem] max2_int min2_int max_two min_two
set_option maxHeartbeats 8000000 in
set_option maxRecDepth 100000 in
theorem cRemove_calls (S : Nat → Prop) (h : Nat) (p : Hp) (L i x : Nat) (w : World) (H : HpAt S w h p) (hv : HpInv p) (hL : p.l.length = L + 1) (hi : i ≤ L) (hx : p.l.getD i 0 = (x : Int)) (hn : p.at_.length ≤ 800) :
    Calls Tryz.prog 159 #[.iface 183 (.pointer (some ⟨h, 0, none⟩)), .int .i64 (i : Int)] w fun e w' => e = .returned (.iface 3 (.int .i64 (x : Int))) ∧ (∃ q, DelRel p q x ∧ HpAt S w' h q) ∧ Chg S w w' := by
  have HH := Aside0.mk H
  have HV := Aside0.mk hv
  have hle := hv.le
  have HLn := Aside0.mk hL
  rw [hL] at hle
  have mP := m_Pop h
  have mL := m_Len h
  have mS := m_Swap h
  by_cases hiL : i = L
  · subst hiL
    have HPX := Aside0.mk (pop_rel hv hL hx)
    have HX := Aside0.mk hx
    clear H hv hL hx
    have hb : ((i : Int) != (i : Int)) = false := by simp
    go_enter Tryz.func159, Tryz.ntmps159
    go_wp2_with (first
      | (go_at_call 198; (with_reducible refine (HLen_calls S h p _ HH.out).mono ?_); rintro e w2 ⟨rfl, hd⟩; rw [HLn.out]; have HD := Aside0.mk hd; have H2 := Aside0.mk (HH.out.keep (Keep.of_below hd.below)); clear hd)
      | (go_at_call 200; (with_reducible refine (HPopR_calls S h p i x _ H2.out HLn.out HX.out HPX.out.1 (by omega) (by omega)).mono ?_); rintro e w5 ⟨rfl, h5, hc5⟩; have H5 := Aside0.mk h5; have HC5 := Aside0.mk hc5; clear h5 hc5))
    go_ret
    exact ⟨rfl, ⟨_, HPX.out.2, H5.out⟩, (Chg.of_drawn HD.out).trans HC5.out⟩
  · have hsw : (swapL p i L).l.getD L 0 = (x : Int) := by
      show ((p.l.set i (p.l.getD L 0)).set L (p.l.getD i 0)).getD L 0 = _
      rw [getD_set' (by simp; omega), if_pos rfl, hx]
    have HSW := Aside0.mk hsw
    have HSR := Aside0.mk (swap_rel hv (n := L + 1) (i := i) (k := L) (by omega) (by omega) (by omega) (by omega))
    have hsl : (swapL p i L).l.length = L + 1 := by rw [HSR.out.ll, hL]
    have HSL := Aside0.mk hsl
    clear H hv hL hx hsw hsl
    have hb : ((L : Int) != (i : Int)) = true := by rw [bne_iff_ne]; omega
    have hlt : i < L := by omega
    go_enter Tryz.func159, Tryz.ntmps159
    go_wp2_with (first
      | (go_at_call 198; (with_reducible refine (HLen_calls S h p _ HH.out).mono ?_); rintro e w2 ⟨rfl, hd⟩; rw [HLn.out]; have HD := Aside0.mk hd; have H2 := Aside0.mk (HH.out.keep (Keep.of_below hd.below)); clear hd)
      | (go_at_call 202; (with_reducible refine (HSwap_calls S h p i L _ H2.out HV.out (by rw [HLn.out]; omega) (by rw [HLn.out]; omega) (by omega) (by rw [HLn.out]; omega)).mono ?_); rintro e w3 ⟨rfl, hs, hc3⟩; have HS := Aside0.mk hs; have HC3 := Aside0.mk hc3; clear hs hc3)
      | (go_at_call 156; (with_reducible refine (down_calls S h (swapL p i L) i L _ HS.out HSR.out.inv (by rw [HSL.out]; omega) (by omega) (by rw [HSR.out.la]; omega) (by rw [HSL.out]; omega)).mono ?_); rintro e w4 ⟨b, rfl, ⟨q, hr, hq⟩, hc4⟩; have HR := Aside0.mk hr; have HQ := Aside0.mk hq; have HC4 := Aside0.mk hc4; have HPX := Aside0.mk (pop_rel (x := x) hr.inv (L := L) (by rw [hr.ll, HSL.out]) (by rw [hr.high L (Nat.le_refl _), HSW.out])); clear hr hq hc4)
      | (go_at_call 172; (with_reducible refine (up_calls S h q i L _ HQ.out HR.out.inv hlt (by rw [HR.out.ll, HSL.out]; omega) (by rw [HR.out.la, HSR.out.la]; omega) (by rw [HR.out.ll, HSL.out]; omega)).mono ?_); rintro e w6 ⟨rfl, ⟨q2, hr, hq⟩, hc4⟩; have HR2 := Aside0.mk (HR.out.trans hr); have HQ2 := Aside0.mk hq; have HC6 := Aside0.mk hc4; have HPX2 := Aside0.mk (pop_rel (x := x) hr.inv (L := L) (by rw [hr.ll, HR.out.ll, HSL.out]) (by rw [hr.high L (Nat.le_refl _), HR.out.high L (Nat.le_refl _), HSW.out])); clear hr hq hc4)
      | (go_at_call 200; (with_reducible refine (HPopR_calls S h q2 L x _ HQ2.out (by rw [HR2.out.ll, HSL.out]) (by rw [HR2.out.high L (Nat.le_refl _), HSW.out]) HPX2.out.1 (by rw [HR2.out.la, HSR.out.la]; omega) (by omega)).mono ?_); rintro e w5 ⟨rfl, h5, hc5⟩; have H5 := Aside0.mk h5; have HC5 := Aside0.mk hc5; clear h5 hc5)
      | (go_at_call 200; (with_reducible refine (HPopR_calls S h q L x _ HQ.out (by rw [HR.out.ll, HSL.out]) (by rw [HR.out.high L (Nat.le_refl _), HSW.out]) HPX.out.1 (by rw [HR.out.la, HSR.out.la]; omega) (by omega)).mono ?_); rintro e w5 ⟨rfl, h5, hc5⟩; have H5 := Aside0.mk h5; have HC5 := Aside0.mk hc5; clear h5 hc5))
    all_goals
      go_ret
      first
        | exact ⟨rfl, ⟨_, Rel.del HSR.out (Rel.del HR2.out HPX2.out.2), H5.out⟩, ((((Chg.of_drawn HD.out).trans HC3.out).trans HC4.out).trans HC6.out).trans HC5.out⟩
        | exact ⟨rfl, ⟨_, Rel.del HSR.out (Rel.del HR.out HPX.out.2), H5.out⟩, (((Chg.of_drawn HD.out).trans HC3.out).trans HC4.out).trans HC5.out⟩
end Go.Proofs.YtbpoapfkeinjnaaGreatDoor.Ld
namespace Go.Proofs.YtbpoapfkeinjnaaGreatDoor.Ld
open Go.RowKit Go.Proofs.YtbpoapfkeinjnaaGreatDoorW.PrintWords Go.Proofs.YtbpoapfkeinjnaaGreatDoorW.PrintLast Go.Proofs.YtbpoapfkeinjnaaGreatDoorW.PrintMore
set_option linter.unusedVariables false
set_option linter.unusedSimpArgs false
attribute [local go_sem] max2_int min2_int max_two min_two
set_option maxHeartbeats 8000000 in
set_option maxRecDepth 100000 in
theorem known_calls (S : Nat → Prop) (h : Nat) (p : Hp) (x : Nat) (w : World) (H : HpAt S w h p) (hx : x < p.at_.length) (hn : p.at_.length ≤ 800) :
    Calls Tryz.prog 160 #[.pointer (some ⟨h, 0, none⟩), .int .i64 (x : Int)] w fun e w' => e = .returned (.bool true) ∧ Drawn0 w w' := by
  obtain ⟨vl, va, vk, HP⟩ := H
  obtain ⟨A, c, rfl, _, _⟩ := HP.ra.ri
  have c1 : w.cell? ⟨h, 1, none⟩ = some (.slice A p.at_.length c) := (blk_cell HP.blk 1).trans rfl
  have q1 : decide (0 ≤ (x : Int)) = true := decide_eq_true (by omega)
  have q2 : decide ((x : Int) < (p.at_.length : Int)) = true := decide_eq_true (by omega)
  clear HP
  go_enter Tryz.func160, Tryz.ntmps160
  go_wp2
  go_ret
  exact ⟨rfl, by repeat (first | exact Drawn0.refl _ | apply Drawn0.step)⟩
set_option maxHeartbeats 8000000 in
set_option maxRecDepth 100000 in
theorem HHas_calls (S : Nat → Prop) (h : Nat) (p : Hp) (x : Nat) (w : World) (H : HpAt S w h p) (hx : x < p.at_.length) (hn : p.at_.length ≤ 800) :
    Calls Tryz.prog 161 #[.pointer (some ⟨h, 0, none⟩), .int .i64 (x : Int)] w fun e w' => e = .returned (.bool (decide (0 ≤ p.at_.getD x 0))) ∧ Drawn0 w w' := by
  have HH := Aside0.mk H
  obtain ⟨vl, va, vk, HP⟩ := H
  obtain ⟨b, c, rfl, cx, fx⟩ := HP.ra.some_ x hx
  obtain ⟨Q, hQ⟩ : ∃ Q, p.at_.getD x 0 = Q := ⟨_, rfl⟩
  have c1 : w.cell? ⟨h, 1, none⟩ = some (.slice (some ⟨b, 0, none⟩) p.at_.length c) := (blk_cell HP.blk 1).trans rfl
  have q1 : (0 ≤ (x : Int)) = True := eq_true (by omega)
  have q2 : ((x : Int) < (p.at_.length : Int)) = True := eq_true (by omega)
  clear HP
  rw [hQ]
  first | rw [hQ] at cx | (rw [List.getD_eq_getElem?_getD, List.getElem?_eq_getElem hx, Option.getD_some] at hQ; rw [hQ] at cx)
  clear hQ
  go_enter Tryz.func161, Tryz.ntmps161
  go_wp2_with (go_at_call 160; (with_reducible refine (known_calls S h p x _ HH.out hx hn).mono ?_); rintro e w2 ⟨rfl, ⟨n2, rfl⟩⟩)
  go_ret
  exact ⟨rfl, by repeat (first | exact Drawn0.refl _ | apply Drawn0.step)⟩
theorem HHas_r (S : Nat → Prop) (h : Nat) (p : Hp) (x : Nat) {b : Bool} (hb : decide (0 ≤ p.at_.getD x 0) = b) (w : World) (H : HpAt S w h p) (hx : x < p.at_.length) (hn : p.at_.length ≤ 800) :
    Calls Tryz.prog 161 #[.pointer (some ⟨h, 0, none⟩), .int .i64 (x : Int)] w fun e w' => e = .returned (.bool b) ∧ Drawn0 w w' := by subst hb; exact HHas_calls S h p x w H hx hn
set_option maxHeartbeats 8000000 in
set_option maxRecDepth 100000 in
theorem check_calls (S : Nat → Prop) (h : Nat) (p : Hp) (x : Nat) {b : Bool} (hb : decide (0 ≤ p.at_.getD x 0) = b) (w : World) (H : HpAt S w h p) (hx : x < p.at_.length) (hn : p.at_.length ≤ 800) :
    Calls Tryz.prog 158 #[.pointer (some ⟨h, 0, none⟩), .int .i64 (x : Int)] w fun e w' => e = .returned (.int .i64 (if b then 0 else 6)) ∧ Drawn0 w w' := by
  have HH := Aside0.mk H
  have HB := Aside0.mk hb
  clear H hb
  cases b
  all_goals
    go_enter Tryz.func158, Tryz.ntmps158
    go_wp2_with (first
      | (go_at_call 160; (with_reducible refine (known_calls S h p x _ HH.out hx hn).mono ?_); rintro e w2 ⟨rfl, hd⟩; have HD := Aside0.mk hd; have H2 := Aside0.mk (HH.out.keep (Keep.of_below hd.below)); clear hd)
      | (go_at_call 161; (with_reducible refine (HHas_r S h p x HB.out _ H2.out hx hn).mono ?_); rintro e w3 ⟨rfl, hd⟩; have HD3 := Aside0.mk (drawnT HD.out hd); clear hd))
    go_ret
    exact ⟨rfl, HD3.out⟩
structure SetRel (p q : Hp) (x : Nat) (key : Int) : Prop where
  keys : q.keys = p.keys.set x key
  la : q.at_.length = p.at_.length
  inv : HpInv q
  on : ∀ j, j < p.at_.length → (q.on j ↔ p.on j ∨ j = x)
theorem keyed_inv {p : Hp} (h : HpInv p) (x : Nat) (key : Int) : HpInv { p with keys := p.keys.set x key } := ⟨by simpa using h.len, h.l1, h.l2, h.cnt⟩
set_option maxHeartbeats 8000000 in
set_option maxRecDepth 100000 in
theorem HpPush_calls (S : Nat → Prop) (h : Nat) (p : Hp) (x : Nat) (key : Int) (w : World) (H : HpAt S w h p) (hv : HpInv p) (hx : x < p.at_.length) (hon : ¬ p.on x) (hn : p.at_.length ≤ 800) :
    Calls Tryz.prog 132 #[.pointer (some ⟨h, 0, none⟩), .int .i64 (x : Int), .int .i64 key] w fun e w' => e = .returned (.int .i64 0) ∧ (∃ q, SetRel p q x key ∧ HpAt (up S w w') w' h q) ∧ Chg S w w' := by
  have HH := Aside0.mk H
  have HB := Aside0.mk (decide_eq_false (show ¬ 0 ≤ p.at_.getD x 0 from hon))
  have HV := Aside0.mk (keyed_inv hv x key)
  have HON := Aside0.mk (show ¬ ({ p with keys := p.keys.set x key } : Hp).on x from hon)
  have hkl := hv.len
  have HKL := Aside0.mk hkl
  clear H hv hon
  go_enter Tryz.func132, Tryz.ntmps132
  go_upto_region 5 with (first
    | (go_at_call 160; (with_reducible refine (known_calls S h p x _ HH.out hx hn).mono ?_); rintro e w2 ⟨rfl, hd⟩; have HD := Aside0.mk hd; have H2 := Aside0.mk (HH.out.keep (Keep.of_below hd.below)); clear hd)
    | (go_at_call 161; (with_reducible refine (HHas_r S h p x HB.out _ H2.out hx hn).mono ?_); rintro e w3 ⟨rfl, hd⟩; have HD3 := Aside0.mk (drawnT HD.out hd); have H3 := Aside0.mk (H2.out.keep (Keep.of_below hd.below)); clear hd))
  obtain ⟨vl, va, vk, HP⟩ := H3.out
  obtain ⟨b, c, rfl, cx, fx⟩ := HP.rk.some_ x (by rw [hkl]; exact hx)
  have c2 : w3.cell? ⟨h, 2, none⟩ = some (.slice (some ⟨b, 0, none⟩) p.keys.length c) := (blk_cell HP.blk 2).trans rfl
  obtain ⟨P1, hP1⟩ : ∃ P1 : Hp, P1 = { p with keys := p.keys.set x key } := ⟨_, rfl⟩
  have hst := HP.setK x key
  rw [← hP1] at hst HV HON
  have hla1 : P1.at_.length = p.at_.length := by rw [hP1]
  have HST := Aside0.mk hst
  have HP1 := Aside0.mk hP1
  clear hP1 hst
  rw [hkl] at c2
  have q1 : (0 ≤ (x : Int)) = True := eq_true (by omega)
  have q2 : ((x : Int) < (p.at_.length : Int)) = True := eq_true (by omega)
  clear HP hkl
  go_wp2_with (go_at_call 162; go_loud (refine (cPush_calls S h P1 x _ ⟨_, _, _, HST.out.1⟩ HV.out (by rw [hla1]; exact hx) HON.out (by rw [hla1]; exact hn)).mono ?_); rintro e w5 ⟨rfl, ⟨q, hq, hq2⟩, hc5⟩; have HQ := Aside0.mk hq; have HQ2 := Aside0.mk hq2; have HC5 := Aside0.mk hc5; clear hq hq2 hc5)
  go_ret
  have s1 := HD3.out.below.size
  have hs := (Chg.refl S w3).set HST.out.2 x (.int .i64 key)
  have s2 := hs.size
  exact ⟨rfl, ⟨q, ⟨by rw [HQ.out.keys, HP1.out], HQ.out.la.trans hla1, HQ.out.inv, by have h1 := HQ.out.on; rw [HP1.out] at h1; exact h1⟩, HQ2.out.mono (up_left (Nat.le_trans s1 s2))⟩, ((Chg.of_drawn HD3.out).trans hs).trans HC5.out⟩
end Go.Proofs.YtbpoapfkeinjnaaGreatDoor.Ld
namespace Go.Proofs.YtbpoapfkeinjnaaGreatDoor.Ld
open Go.RowKit Go.Proofs.YtbpoapfkeinjnaaGreatDoorW.PrintWords Go.Proofs.YtbpoapfkeinjnaaGreatDoorW.PrintLast Go.Proofs.YtbpoapfkeinjnaaGreatDoorW.PrintMore
set_option linter.unusedVariables false
set_option linter.unusedSimpArgs false
attribute [local go_sem] max2_int min2_int max_two min_two
theorem HpInv.place {p : Hp} (h : HpInv p) {x : Nat} (hx : x < p.at_.length) (hon : p.on x) : ∃ i : Nat, i < p.l.length ∧ p.at_.getD x 0 = (i : Int) ∧ p.l.getD i 0 = (x : Int) := by
  rcases h.l2 x hx with h1 | h1
  · unfold Hp.on at hon; omega
  · exact h1
theorem HpInv.first {p : Hp} (h : HpInv p) {L : Nat} (hL : p.l.length = L + 1) : ∃ x : Nat, p.l.getD 0 0 = (x : Int) ∧ x < p.at_.length ∧ p.on x := by
  obtain ⟨j, h1, h2, h3⟩ := h.l1 0 (by omega)
  exact ⟨j, h1, h2, by unfold Hp.on; omega⟩
theorem HpInv.none {p : Hp} (h : HpInv p) (h0 : p.l.length = 0) (x : Nat) (hx : x < p.at_.length) : ¬ p.on x := fun ho => by
  obtain ⟨i, h1, _⟩ := h.place hx ho
  omega
set_option maxHeartbeats 8000000 in
set_option maxRecDepth 100000 in
theorem HRemove_off (S : Nat → Prop) (h : Nat) (p : Hp) (x : Nat) (w : World) (H : HpAt S w h p) (hx : x < p.at_.length) (hon : ¬ p.on x) (hn : p.at_.length ≤ 800) :
    Calls Tryz.prog 131 #[.pointer (some ⟨h, 0, none⟩), .int .i64 (x : Int)] w fun e w' => e = .returned (.tuple #[.int .i64 0, .int .i64 6]) ∧ Drawn0 w w' := by
  have HH := Aside0.mk H
  have HB := Aside0.mk (decide_eq_false (show ¬ 0 ≤ p.at_.getD x 0 from hon))
  clear H hon
  go_enter Tryz.func131, Tryz.ntmps131
  go_wp2_with (go_at_call 158; (with_reducible refine (check_calls S h p x HB.out _ HH.out hx hn).mono ?_); rintro e w2 ⟨rfl, hd⟩; have HD := Aside0.mk hd; clear hd)
  go_ret2
  exact ⟨rfl, HD.out⟩
set_option maxHeartbeats 8000000 in
set_option maxRecDepth 100000 in
theorem HRemove_on (S : Nat → Prop) (h : Nat) (p : Hp) (x : Nat) (w : World) (H : HpAt S w h p) (hv : HpInv p) (hx : x < p.at_.length) (hon : p.on x) (hn : p.at_.length ≤ 800) :
    Calls Tryz.prog 131 #[.pointer (some ⟨h, 0, none⟩), .int .i64 (x : Int)] w fun e w' => e = .returned (.tuple #[.int .i64 (p.keys.getD x 0), .int .i64 0]) ∧ (∃ q, DelRel p q x ∧ HpAt S w' h q) ∧ Chg S w w' := by
  obtain ⟨i, hi, hai, hli⟩ := hv.place hx hon
  obtain ⟨L, hL⟩ : ∃ L, p.l.length = L + 1 := ⟨p.l.length - 1, by omega⟩
  have HH := Aside0.mk H
  have HV := Aside0.mk hv
  have HB := Aside0.mk (decide_eq_true (show 0 ≤ p.at_.getD x 0 from hon))
  have HL := Aside0.mk hL
  have HLI := Aside0.mk hli
  have HAI := Aside0.mk hai
  have HKL := Aside0.mk hv.len
  obtain ⟨key, hkey⟩ : ∃ key, p.keys.getD x 0 = key := ⟨_, rfl⟩
  rw [hkey]
  have HK := Aside0.mk hkey
  rw [hL] at hi
  clear H hv hon hL hli hai hkey
  go_enter Tryz.func131, Tryz.ntmps131
  go_upto_region 4 with (go_at_call 158; (with_reducible refine (check_calls S h p x HB.out _ HH.out hx hn).mono ?_); rintro e w2 ⟨rfl, hd⟩; have HD := Aside0.mk hd; have H2 := Aside0.mk (HH.out.keep (Keep.of_below hd.below)); clear hd)
  obtain ⟨vl, va, vk, HP⟩ := H2.out
  obtain ⟨b, c, rfl, cx, fx⟩ := HP.ra.some_ x hx
  rw [HAI.out] at cx
  have c1 : w2.cell? ⟨h, 1, none⟩ = some (.slice (some ⟨b, 0, none⟩) p.at_.length c) := (blk_cell HP.blk 1).trans rfl
  have q1 : (0 ≤ (x : Int)) = True := eq_true (by omega)
  have q2 : ((x : Int) < (p.at_.length : Int)) = True := eq_true (by omega)
  clear HP
  refine Qt.wp_region_quiet_tail 12 (by kernel_rfl) (by kernel_rfl) ?_
  simp only [List.take_succ_cons, List.take_zero, List.drop_succ_cons, List.drop_zero]
  repeat (go_big_quiet_step ((fail)))
  refine wpQuiet_nil ?_
  intro w9 hw9
  obtain ⟨m9, rfl⟩ := hw9
  have H3 := Aside0.mk (H2.out.keep (w' := w2.drewN m9) (fun k _ _ => rfl))
  go_upto_region 5 with (go_at_call 159; (with_reducible refine (cRemove_calls S h p L i x _ H3.out HV.out HL.out (by omega) HLI.out hn).mono ?_); rintro e w5 ⟨rfl, ⟨q, hq, hq2⟩, hc5⟩; have HQ := Aside0.mk hq; have HQ2 := Aside0.mk hq2; have HC5 := Aside0.mk hc5; clear hq hq2 hc5)
  obtain ⟨vl, va, vk, HP⟩ := HQ2.out
  have hkl : q.keys.length = p.at_.length := by rw [HQ.out.keys, HKL.out]
  obtain ⟨b, c, rfl, cx, fx⟩ := HP.rk.some_ x (by rw [hkl]; exact hx)
  rw [HQ.out.keys, HK.out] at cx
  have c1 : w5.cell? ⟨h, 2, none⟩ = some (.slice (some ⟨b, 0, none⟩) q.keys.length c) := (blk_cell HP.blk 2).trans rfl
  rw [hkl] at c1
  clear HP hkl
  go_wp2
  go_ret2
  exact ⟨rfl, ⟨q, HQ.out, HQ2.out.keep (Keep.of_below (Drawn0.below (by repeat (first | exact Drawn0.refl _ | apply Drawn0.step))))⟩, (((Chg.of_drawn HD.out).drewN m9).trans HC5.out).trans (Chg.of_drawn (by repeat (first | exact Drawn0.refl _ | apply Drawn0.step)))⟩
set_option maxHeartbeats 8000000 in
set_option maxRecDepth 100000 in
theorem HFirst_none (S : Nat → Prop) (h : Nat) (p : Hp) (w : World) (H : HpAt S w h p) (h0 : p.l.length = 0) :
    Calls Tryz.prog 126 #[.pointer (some ⟨h, 0, none⟩)] w fun e w' => e = .returned (.tuple #[.int .i64 0, .int .i64 0, .bool false]) ∧ Drawn0 w w' := by
  obtain ⟨vl, va, vk, HP⟩ := H
  obtain ⟨A, c, rfl, _, _⟩ := HP.rl.ri
  have c0 : w.cell? ⟨h, 0, none⟩ = some (.slice A p.l.length c) := (blk_cell HP.blk 0).trans rfl
  rw [h0] at c0
  clear HP
  go_enter Tryz.func126, Tryz.ntmps126
  go_wp2
  go_ret3
  exact ⟨rfl, by repeat (first | exact Drawn0.refl _ | apply Drawn0.step)⟩
set_option maxHeartbeats 8000000 in
set_option maxRecDepth 100000 in
theorem HFirst_some (S : Nat → Prop) (h : Nat) (p : Hp) (L : Nat) (w : World) (H : HpAt S w h p) (hv : HpInv p) (hL : p.l.length = L + 1) (hn : p.at_.length ≤ 800) :
    Calls Tryz.prog 126 #[.pointer (some ⟨h, 0, none⟩)] w fun e w' => ∃ x : Nat, x < p.at_.length ∧ p.on x ∧ p.l.getD 0 0 = (x : Int) ∧ e = .returned (.tuple #[.int .i64 (x : Int), .int .i64 (p.keys.getD x 0), .bool true]) ∧ Drawn0 w w' := by
  obtain ⟨x, hl0, hx, hon⟩ := hv.first hL
  have hle := hv.le
  rw [hL] at hle
  have HH := Aside0.mk H
  have HV := Aside0.mk hv
  have HL := Aside0.mk hL
  have HL0 := Aside0.mk hl0
  have HON := Aside0.mk hon
  have hkl := hv.len
  have HKL := Aside0.mk hkl
  obtain ⟨key, hkey⟩ : ∃ key, p.keys.getD x 0 = key := ⟨_, rfl⟩
  have HK := Aside0.mk hkey
  obtain ⟨vl, va, vk, HP⟩ := H
  obtain ⟨b0, k0, rfl, cx0, fx0⟩ := HP.rl.some_ 0 (by omega)
  rw [hl0] at cx0
  have c0 : w.cell? ⟨h, 0, none⟩ = some (.slice (some ⟨b0, 0, none⟩) p.l.length k0) := (blk_cell HP.blk 0).trans rfl
  rw [hL] at c0
  have hz : (((L + 1 : Nat) : Int) = 0) = False := eq_false (by omega)
  obtain ⟨b, c, rfl, cx, fx⟩ := HP.rk.some_ x (by rw [hkl]; exact hx)
  rw [hkey] at cx
  have c2 : w.cell? ⟨h, 2, none⟩ = some (.slice (some ⟨b, 0, none⟩) p.keys.length c) := (blk_cell HP.blk 2).trans rfl
  rw [hkl] at c2
  have q1 : (0 ≤ (x : Int)) = True := eq_true (by omega)
  have q2 : ((x : Int) < (p.at_.length : Int)) = True := eq_true (by omega)
  clear HP hv hL hl0 hon hkl hkey hle
  go_enter Tryz.func126, Tryz.ntmps126
  go_wp2
  refine Qt.wp_region_quiet_tail 10 (by kernel_rfl) (by kernel_rfl) ?_
  simp only [List.take_succ_cons, List.take_zero, List.drop_succ_cons, List.drop_zero]
  repeat (go_big_quiet_step ((fail)))
  refine wpQuiet_nil ?_
  intro w9 hw9
  obtain ⟨m9, rfl⟩ := hw9
  go_wp2
  go_ret3
  exact ⟨x, hx, HON.out, HL0.out, by rw [HK.out]; rfl, by repeat (first | exact Drawn0.refl _ | apply Drawn0.step)⟩
set_option maxHeartbeats 8000000 in
set_option maxRecDepth 100000 in
theorem HPop_none (S : Nat → Prop) (h : Nat) (p : Hp) (w : World) (H : HpAt S w h p) (h0 : p.l.length = 0) :
    Calls Tryz.prog 80 #[.pointer (some ⟨h, 0, none⟩)] w fun e w' => e = .returned (.tuple #[.int .i64 0, .int .i64 0, .bool false]) ∧ Drawn0 w w' := by
  obtain ⟨vl, va, vk, HP⟩ := H
  obtain ⟨A, c, rfl, _, _⟩ := HP.rl.ri
  have c0 : w.cell? ⟨h, 0, none⟩ = some (.slice A p.l.length c) := (blk_cell HP.blk 0).trans rfl
  rw [h0] at c0
  clear HP
  go_enter Tryz.func80, Tryz.ntmps80
  go_wp2
  go_ret3
  exact ⟨rfl, by repeat (first | exact Drawn0.refl _ | apply Drawn0.step)⟩
set_option maxHeartbeats 8000000 in
set_option maxRecDepth 100000 in
theorem HPop_some (S : Nat → Prop) (h : Nat) (p : Hp) (L : Nat) (w : World) (H : HpAt S w h p) (hv : HpInv p) (hL : p.l.length = L + 1) (hn : p.at_.length ≤ 800) :
    Calls Tryz.prog 80 #[.pointer (some ⟨h, 0, none⟩)] w fun e w' => ∃ x : Nat, x < p.at_.length ∧ p.on x ∧ p.l.getD 0 0 = (x : Int) ∧ e = .returned (.tuple #[.int .i64 (x : Int), .int .i64 (p.keys.getD x 0), .bool true]) ∧ (∃ q, DelRel p q x ∧ HpAt S w' h q) ∧ Chg S w w' := by
  obtain ⟨x, hl0, hx, hon⟩ := hv.first hL
  have hle := hv.le
  rw [hL] at hle
  have HH := Aside0.mk H
  have HV := Aside0.mk hv
  have HL := Aside0.mk hL
  have HL0 := Aside0.mk hl0
  have HON := Aside0.mk hon
  have hkl := hv.len
  have HKL := Aside0.mk hkl
  obtain ⟨key, hkey⟩ : ∃ key, p.keys.getD x 0 = key := ⟨_, rfl⟩
  have HK := Aside0.mk hkey
  obtain ⟨vl, va, vk, HP⟩ := H
  obtain ⟨b0, k0, rfl, cx0, fx0⟩ := HP.rl.some_ 0 (by omega)
  rw [hl0] at cx0
  have c0 : w.cell? ⟨h, 0, none⟩ = some (.slice (some ⟨b0, 0, none⟩) p.l.length k0) := (blk_cell HP.blk 0).trans rfl
  rw [hL] at c0
  have hz : (((L + 1 : Nat) : Int) = 0) = False := eq_false (by omega)
  have ht : ∀ w : World, (Instr.typeAssert (.iface 3 (.int .i64 (x : Int))) 20 3 false).run Tryz.prog w = .ok (.int .i64 (x : Int)) w := fun _ => by kernel_rfl
  have q1 : (0 ≤ (x : Int)) = True := eq_true (by omega)
  have q2 : ((x : Int) < (p.at_.length : Int)) = True := eq_true (by omega)
  clear HP hv hL hl0 hon hkl hkey hle
  go_enter Tryz.func80, Tryz.ntmps80
  go_upto_region 4 with (go_at_call 127; (with_reducible refine (cPop_calls S h p L x _ (HH.out.keep (Keep.of_below (Drawn0.below (by repeat (first | exact Drawn0.refl _ | apply Drawn0.step))))) HV.out HL.out HL0.out hn).mono ?_); rintro e w5 ⟨rfl, ⟨q, hq, hq2⟩, hc5⟩; have HQ := Aside0.mk hq; have HQ2 := Aside0.mk hq2; have HC5 := Aside0.mk hc5; clear hq hq2 hc5)
  obtain ⟨vl, va, vk, HP⟩ := HQ2.out
  have hkl : q.keys.length = p.at_.length := by rw [HQ.out.keys, HKL.out]
  obtain ⟨b, c, rfl, cx, fx⟩ := HP.rk.some_ x (by rw [hkl]; exact hx)
  rw [HQ.out.keys, HK.out] at cx
  have c1 : w5.cell? ⟨h, 2, none⟩ = some (.slice (some ⟨b, 0, none⟩) q.keys.length c) := (blk_cell HP.blk 2).trans rfl
  rw [hkl] at c1
  clear HP hkl
  refine Qt.wp_region_quiet_tail 10 (by kernel_rfl) (by kernel_rfl) ?_
  simp only [List.take_succ_cons, List.take_zero, List.drop_succ_cons, List.drop_zero]
  repeat (go_big_quiet_step ((fail)))
  refine wpQuiet_nil ?_
  intro w9 hw9
  obtain ⟨m9, rfl⟩ := hw9
  go_wp2
  go_ret3
  exact ⟨x, hx, HON.out, HL0.out, by rw [HK.out]; rfl, ⟨q, HQ.out, HQ2.out.keep (Keep.of_below (Drawn0.below (by repeat (first | exact Drawn0.refl _ | apply Drawn0.step))))⟩, ((Chg.of_drawn (by repeat (first | exact Drawn0.refl _ | apply Drawn0.step))).trans (HC5.out)).trans (Chg.of_drawn (by repeat (first | exact Drawn0.refl _ | apply Drawn0.step)))⟩
end Go.Proofs.YtbpoapfkeinjnaaGreatDoor.Ld
