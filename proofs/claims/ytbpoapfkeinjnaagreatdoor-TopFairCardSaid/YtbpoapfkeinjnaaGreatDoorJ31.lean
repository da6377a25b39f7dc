/- The engine of the yard and what it leans on, part 31. -/
import Derived.Test.YtbpoapfkeinjnaaGreatDoorJ30
import Derived.Test.YtbpoapfkeinjnaaGreatDoorRows
import Derived.WalkKit
import Derived.ProofKit
import Derived.OpenShut
import Derived.ShutString
import Derived.ChangeOld
import Derived.Below
import Derived.SizedLaws
namespace Go.Proofs.YtbpoapfkeinjnaaGreatDoor.Ld
open Go.RowKit Go.Proofs.YtbpoapfkeinjnaaGreatDoorW.PrintWords Go.Proofs.YtbpoapfkeinjnaaGreatDoorW.PrintLast Go.Proofs.YtbpoapfkeinjnaaGreatDoorW.PrintMore
set_option linter.unusedVariables false
set_option linter.unusedSimpArgs false
set_option linter.unnecessarySimpa false
attribute [local go_sem] max2_int min2_int max_two min_two
def arr5 (f : Nat → Int) : Array Value := #[.int .i64 (f 0), .int .i64 (f 1), .int .i64 (f 2), .int .i64 (f 3), .int .i64 (f 4)]
theorem arr5_get (f : Nat → Int) (i : Nat) (h : i < 5) : (arr5 f)[i]? = some (.int .i64 (f i)) := by
  match i, h with
  | 0, _ => rfl
  | 1, _ => rfl
  | 2, _ => rfl
  | 3, _ => rfl
  | 4, _ => rfl
theorem arr5_set (f : Nat → Int) (i : Nat) (x : Int) (h : i < 5) : (arr5 f).setIfInBounds i (.int .i64 x) = arr5 (upf f i x) := by
  match i, h with
  | 0, _ => rfl
  | 1, _ => rfl
  | 2, _ => rfl
  | 3, _ => rfl
  | 4, _ => rfl
structure Own5 (w0 : World) (S : Nat → Prop) (w : World) (b : Nat) (f : Nat → Int) : Prop where
  no : ¬ S b
  ge : w0.heap.size ≤ b
  blk : w.heap[b]? = some (.cells (arr5 f) 32 (0, 0))
section
variable {bm : Nat} {w0 w w' : World} {g : Nat} {K K' : EK} {e e' : Eng} {S : Nat → Prop} {b : Nat} {f : Nat → Int}
theorem Own5.below (h : Own5 w0 S w b f) (hb : Below w.heap.size w w') : Own5 w0 S w' b f := ⟨h.no, h.ge, blk_below h.blk hb⟩
theorem Own5.step (h : Own5 w0 S w b f) (hl : LW bm w0 g K e S w) (t : To S w g K' e' w') : Own5 w0 (nextS S w w') w' b f :=
  ⟨(hl.own t (blk_lt h.blk) h.no).1, h.ge, (hl.own t (blk_lt h.blk) h.no).2.trans h.blk⟩
theorem Own5.cell (h : Own5 w0 S w b f) (i : Nat) (hi : i < 5) : w.cell? ⟨b, i, none⟩ = some (.int .i64 (f i)) := (blk_cell h.blk i).trans (arr5_get f i hi)
theorem Own5.frozen (h : Own5 w0 S w b f) (i : Nat) : w.frozen? ⟨b, i, none⟩ = false := blk_frozen h.blk i
theorem Own5.set (h : Own5 w0 S w b f) (i : Nat) (x : Int) (hi : i < 5) : Own5 w0 S (w.setCell ⟨b, i, none⟩ (.int .i64 x)) b (upf f i x) :=
  ⟨h.no, h.ge, blk_put h.blk i (.int .i64 x) (by rw [arr5_set f i x hi])⟩
theorem Own5.far {b' : Nat} (h : Own5 w0 S w b f) (hne : b ≠ b') (i : Nat) (v : Value) : Own5 w0 S (w.setCell ⟨b', i, none⟩ v) b f :=
  ⟨h.no, h.ge, (((Chg.refl (fun k => k = b') w).set rfl _ _).block b (blk_lt h.blk) hne).trans h.blk⟩
theorem LW.set (h : LW bm w0 g K e S w) (k : Own5 w0 S w b f) (i : Nat) (v : Value) : LW bm w0 g K e S (w.setCell ⟨b, i, none⟩ v) :=
  h.off (T := fun k => k = b) ((Chg.refl (fun k => k = b) w).set rfl _ _) (fun j hj => by rw [hj]; exact k.ge) (fun j hj he => k.no (he ▸ hj))
end
theorem Own5.same {w0 w : World} {S : Nat → Prop} {b : Nat} {f f' : Nat → Int} (h : Own5 w0 S w b f) (hf : ∀ i, i < 5 → f i = f' i) : Own5 w0 S w b f' := by
  refine ⟨h.no, h.ge, h.blk.trans ?_⟩
  unfold arr5
  rw [hf 0 (by decide), hf 1 (by decide), hf 2 (by decide), hf 3 (by decide), hf 4 (by decide)]
def cfgF (q : Int) : Cf := ⟨100, 1, 8, 0, 1000, 0, 9, 1, 1, q⟩
theorem cfgF_ok {q : Int} (hq : 1 ≤ q ∧ q ≤ 60) : CfOk (cfgF q) := ⟨by show (1 : Int) ≤ 100 ∧ (100 : Int) ≤ 1048576; omega, by show (1 : Int) ≤ 1 ∧ (1 : Int) ≤ 16; omega, by show (1 : Int) ≤ 8 ∧ (8 : Int) ≤ 1048576; omega, by show (0 : Int) ≤ 0 ∧ (0 : Int) ≤ 1048576; omega, by show (1 : Int) ≤ 1000 ∧ (1000 : Int) ≤ 1048576; omega, by show (0 : Int) ≤ 0 ∧ (0 : Int) ≤ 1048576; omega, by show (1 : Int) ≤ 9 ∧ (9 : Int) ≤ 1048576; omega, by show (1 : Int) ≤ 1 ∧ (1 : Int) ≤ 1048576; omega, by show (1 : Int) ≤ 1 ∧ (1 : Int) ≤ 1048576; omega, by show 1 ≤ q ∧ q ≤ 1048576; omega⟩
def kcF (n : Nat) (q : Int) : Kc := ⟨n + 1, 4, cfgF q⟩
theorem kcF_ok {n : Nat} {q : Int} (hn : 1 ≤ n ∧ n ≤ 5) (hq : 1 ≤ q ∧ q ≤ 60) : KcOk n (kcF n q) where
  c := cfgF_ok hq
  slots := rfl
  most := rfl
  N := by show n ≤ n + 1 ∧ 1 ≤ n + 1 ∧ n + 1 ≤ 12; omega
  P := by show (0 : Int) ≤ 4 ∧ (4 : Int) ≤ 7; omega
  nb := hn
  active := by show (n : Int) ≤ 8; omega
  budget := by show (2 : Int) ≤ 100; omega
set_option maxHeartbeats 8000000 in
set_option maxRecDepth 100000 in
theorem TopFair_calls (bm : Nat) (q0 c0 : Int) (A : Option Addr) (nw cw : Nat) (ws : List Int) (w : World) (hv : Vars bm w) (hw : RI w A ws) (hnw : ws.length = nw) :
    Calls Tryz.prog 3 #[.int .i64 q0, .slice A nw cw, .int .i64 c0] w fun en w' => en = .returned (.bool true) ∧ Below w.heap.size w w' := by
  have HV := Aside0.mk hv
  have HW := Aside0.mk hw
  have HQ0 := Aside0.mk (cutF_in q0 1 60 (by decide))
  have HC0 := Aside0.mk (cutF_in c0 1 60 (by decide))
  obtain ⟨q, hq⟩ : ∃ q, cutF q0 1 60 = q := ⟨_, rfl⟩
  obtain ⟨cost, hcost⟩ : ∃ cost, cutF c0 1 60 = cost := ⟨_, rfl⟩
  rw [hq] at HQ0
  rw [hcost] at HC0
  obtain ⟨n, hn⟩ : ∃ n, n = if nw < 5 then nw else 5 := ⟨_, rfl⟩
  have hn5 : n ≤ 5 ∧ n ≤ nw := by rw [hn]; split <;> omega
  have HMIN := Aside0.mk (show (if (5 : Int) < (nw : Int) then (5 : Int) else (nw : Int)) = (n : Int) from by rw [hn]; by_cases h : nw < 5; rw [if_pos h, if_neg (by omega)]; rw [if_neg h]; by_cases h2 : nw = 5; rw [h2]; rfl; rw [if_pos (by omega)]; rfl)
  have HQQ := Aside0.mk (And.intro hq hcost)
  have HNN := Aside0.mk hn
  clear hv hw hq hcost hn
  go_enter Tryz.func3, Tryz.ntmps3
  have HN5 := Aside0.mk hn5
  clear hn5
  go_upto_region 3 with (go_at_call 5; go_loud (refine (works_calls bm _ HV.out).mono ?_); rintro en w1 ⟨rfl, hb⟩; have HB1 := Aside0.mk hb; clear hb)
  rw [HMIN.out]
  go_upto_region 4 with (go_at_call 6; go_loud (refine (lcut_calls q0 1 60 (by decide) (by decide) (by decide) _).mono ?_); rintro en w2 ⟨rfl, rfl⟩; rw [HQQ.out.1])
  go_upto_region 5 with (go_at_call 6; go_loud (refine (lcut_calls c0 1 60 (by decide) (by decide) (by decide) _).mono ?_); rintro en w2 ⟨rfl, rfl⟩; rw [HQQ.out.2])
  go_upto_region 6 with (fail)
  obtain ⟨wa, hwa⟩ : ∃ wa, wa = w2.alloc (.cells (encCf (cfgF q)) 26) := ⟨_, rfl⟩
  rw [show w2.alloc (.cells #[.int .i64 100, .int .i64 1, .int .i64 8, .int .i64 0, .int .i64 1000, .int .i64 0, .int .i64 9, .int .i64 1, .int .i64 1, .int .i64 q] 26) = wa from by rw [hwa]; rfl]
  have HBa := Aside0.mk (below_step HB1.out (show Below w2.heap.size w2 wa from hwa ▸ below_alloc (Below.refl _ w2) _))
  have HXa := Aside0.mk (show wa.heap[w2.heap.size]? = some (.cells (encCf (cfgF q)) 26 (0, 0)) from hwa ▸ heap_alloc_new w2 _)
  obtain ⟨b9, hb9⟩ : ∃ b9, w2.heap.size = b9 := ⟨_, rfl⟩
  rw [hb9] at HXa ⊢
  clear hwa hb9 HB1
  have hle5 : (n : Int) ≤ 5 := by have := HN5.out; omega
  go_wp2
  go_loopg [10, 11] (n + 2) (fun kq v10 v11 wr => ∃ (i : Nat), v11 = .int .i64 (i : Int) ∧ Aside0 (kq + i = n + 2 ∧ i ≤ n + 1 ∧ NewR wa 29 2 v10 i (flat encTd (tdsF i (fun _ => 1) (fun _ => cost))) wr))
  case atStart => exact ⟨0, rfl, ⟨by omega, by omega, RowAt.nil _ _ _ _, Below.refl _ _⟩⟩
  case round =>
    obtain ⟨i, rfl, hA⟩ := hrel
    obtain ⟨hk, hi, hrow⟩ := hA.out
    have HK := Aside0.mk hk
    have HR := Aside0.mk hrow
    clear hA hk hrow
    by_cases hlt : i < n + 1
    · have q1 : ((i : Int) < (n : Int) + 1) = True := eq_true (by omega)
      have hn := Aside0.mk (show NewR wa 29 2 u10 i (flat encTd (tdsF i (fun _ => 1) (fun _ => cost))) (wr.alloc (.cells #[.int .i64 1, .int .i64 cost] 29)) from HR.out.on (below_alloc (Below.refl _ _) _))
      have hb := Aside0.mk (heap_alloc_new wr (.cells #[.int .i64 1, .int .i64 cost] 29))
      go_wp2_with (at_builtin; go_loud (refine wp_more rfl (.tmp 44) (.tmp 47) 27 29 (.agg #[.int .i64 0, .int .i64 0]) 2 16 rfl Tryz.underlying27 info29' rfl (by decide) u10 i wr.heap.size (flat encTd (tdsF i (fun _ => 1) (fun _ => cost))) [.int .i64 1, .int .i64 cost] rfl rfl hn.out rfl hb.out (by simp [Value.oneCell']) (by omega) (by decide) ?_); (intro v6 w6 h6))
      go_roundg (gk - 1)
      case measure => have := HK.out; omega
      case rel =>
        have he : flat encTd (tdsF (i + 1) (fun _ => 1) (fun _ => cost)) = flat encTd (tdsF i (fun _ => 1) (fun _ => cost)) ++ [.int .i64 1, .int .i64 cost] := by unfold tdsF; rw [map_range_succ, flat_append]; simp [flat, encTd]
        exact ⟨i + 1, by rw [show ((i : Int) + 1) = ((i + 1 : Nat) : Int) by omega], ⟨by have := HK.out; omega, by omega, by rw [he]; exact h6.out.1⟩⟩
    · have q1 : ((i : Int) < (n : Int) + 1) = False := eq_false (by omega)
      obtain rfl : i = n + 1 := by omega
      obtain ⟨Aa, ca, rfl⟩ := HR.out.1.slice
      have HX1 := Aside0.mk (blk_below HXa.out HR.out.2)
      have e0 := (blk_cell HX1.out 0).trans (show _ = some (Value.int .i64 100) from rfl)
      have e1 := (blk_cell HX1.out 1).trans (show _ = some (Value.int .i64 1) from rfl)
      have e2 := (blk_cell HX1.out 2).trans (show _ = some (Value.int .i64 8) from rfl)
      have e3 := (blk_cell HX1.out 3).trans (show _ = some (Value.int .i64 0) from rfl)
      have e4 := (blk_cell HX1.out 4).trans (show _ = some (Value.int .i64 1000) from rfl)
      have e5 := (blk_cell HX1.out 5).trans (show _ = some (Value.int .i64 0) from rfl)
      have e6 := (blk_cell HX1.out 6).trans (show _ = some (Value.int .i64 9) from rfl)
      have e7 := (blk_cell HX1.out 7).trans (show _ = some (Value.int .i64 1) from rfl)
      have e8 := (blk_cell HX1.out 8).trans (show _ = some (Value.int .i64 1) from rfl)
      have e9 := (blk_cell HX1.out 9).trans (show _ = some (Value.int .i64 q) from rfl)
      go_upto_region 14 with (go_at_call 7; go_loud (refine (made_calls (cfgF q) (cfgF_ok HQ0.out) (n + 1) ⟨by omega, by have := HN5.out; omega⟩ (fun _ => 1) (fun _ => cost) (fun _ _ => by have := HC0.out; show (1 : Int) ≤ 1 ∧ (1 : Int) ≤ 1048576 ∧ 1 ≤ cost ∧ cost ≤ 1048576; omega) Aa ca (fun k => wa.heap.size ≤ k) _ HR.out.1).mono ?_); rintro en w3 ⟨g, K, rfl, hg, hat, hb⟩; have HL3 := Aside0.mk (LW.start HV.out (below_step HBa.out HR.out.2) hat hb); clear hg hat hb)
      clear e0 e1 e2 e3 e4 e5 e6 e7 e8 e9
      go_upto_region 16 with (fail)
      obtain ⟨w4, hw4⟩ : ∃ w4, w4 = w3.alloc (.cells (arr5 fun _ => 0) 32) := ⟨_, rfl⟩
      obtain ⟨w5, hw5⟩ : ∃ w5, w5 = w4.alloc (.cells (arr5 fun _ => 0) 32) := ⟨_, rfl⟩
      rw [show (w3.alloc (.cells #[.int .i64 0, .int .i64 0, .int .i64 0, .int .i64 0, .int .i64 0] 32)).alloc (.cells #[.int .i64 0, .int .i64 0, .int .i64 0, .int .i64 0, .int .i64 0] 32) = w5 from by rw [hw5, hw4]; rfl]
      have hb34 : Below w3.heap.size w3 w4 := hw4 ▸ below_alloc (Below.refl _ w3) _
      have hb45 : Below w4.heap.size w4 w5 := hw5 ▸ below_alloc (Below.refl _ w4) _
      have hs4 : w4.heap.size = w3.heap.size + 1 := by rw [hw4]; exact size_alloc _ _
      have hge : w.heap.size ≤ w3.heap.size := HL3.out.bel.size
      obtain ⟨S0, hS0⟩ : ∃ S0 : Nat → Prop, (fun k => wr.heap.size ≤ k ∧ k < w3.heap.size) = S0 := ⟨_, rfl⟩
      have hn13 : ¬ S0 w3.heap.size := fun e => by rw [← hS0] at e; exact absurd e.2 (Nat.lt_irrefl _)
      have hn14 : ¬ S0 (w3.heap.size + 1) := fun e => by rw [← hS0] at e; have := e.2; omega
      rw [hS0] at HL3
      have HL5 := Aside0.mk ((HL3.out.below hb34).below hb45)
      have HO13 := Aside0.mk (show Own5 w S0 w5 w3.heap.size (fun _ => 0) from ⟨hn13, hge, blk_below (show w4.heap[w3.heap.size]? = some (.cells (arr5 fun _ => 0) 32 (0, 0)) from hw4 ▸ heap_alloc_new w3 _) hb45⟩)
      have HO14 := Aside0.mk (show Own5 w S0 w5 (w3.heap.size + 1) (fun _ => 0) from ⟨hn14, by omega, by rw [← hs4]; exact (show w5.heap[w4.heap.size]? = some (.cells (arr5 fun _ => 0) 32 (0, 0)) from hw5 ▸ heap_alloc_new w4 _)⟩)
      obtain ⟨b13, hb13⟩ : ∃ b13, w3.heap.size = b13 := ⟨_, rfl⟩
      rw [hb13] at HO13 HO14 ⊢
      clear hb34 hb45 hs4 hge hS0 hn13 hn14 hw4 hw5 hb13 HL3 HXa HX1
      obtain ⟨wt, hwt⟩ : ∃ wt : Nat → Int, wt = fun k => cutF (ws.getD k 0) 1 20 := ⟨_, rfl⟩
      have HWT := Aside0.mk (show ∀ k, 1 ≤ wt k ∧ wt k ≤ 20 from fun k => by rw [hwt]; exact cutF_in _ 1 20 (by decide))
      have HWE := Aside0.mk hwt
      clear hwt
      have HSUB := Aside0.mk (show 1 ≤ n → Sub (kcF n q) cost n wt 0 (eng0 (cfgF q) (n + 1) (fun _ => 1) (fun _ => cost)) from fun h1 => sub_start (kcF n q) cost n wt (kcF_ok ⟨h1, by have := HN5.out; omega⟩ HQ0.out) HC0.out)
      obtain ⟨e0, he0⟩ : ∃ e0, eng0 (cfgF q) (n + 1) (fun _ => 1) (fun _ => cost) = e0 := ⟨_, rfl⟩
      rw [he0] at HSUB HL5
      clear he0
      obtain ⟨wo, rfl⟩ : ∃ wo : World, wo = wr := ⟨_, rfl⟩
      obtain ⟨go, rfl⟩ : ∃ go : Nat, go = gk := ⟨_, rfl⟩
      go_wp2
      go_loopg [15] (n + 1) (fun kq v15 wr => ∃ (i : Nat) (K : EK) (e : Eng) (S : Nat → Prop), v15 = .int .i64 (i : Int) ∧ Aside0 (kq + i = n + 1 ∧ i ≤ n ∧ (1 ≤ n → Sub (kcF n q) cost n wt i e) ∧ LW bm w g K e S wr ∧ Own5 w S wr b13 (fun k => if k < i then wt k else 0) ∧ Own5 w S wr (b13 + 1) (fun _ => 0)))
      case atStart => exact ⟨0, K, e0, S0, rfl, ⟨by omega, by omega, HSUB.out, HL5.out, HO13.out.same (fun i _ => by rw [if_neg (Nat.not_lt_zero _)]), HO14.out⟩⟩
      case round =>
        clear HSUB HL5 HO13 HO14
        obtain ⟨i, K, e, S, rfl, hA⟩ := hrel
        obtain ⟨hk, hi, hsub, hl, h13, h14⟩ := hA.out
        have HK := Aside0.mk hk
        have HSUB := Aside0.mk hsub
        have HL := Aside0.mk hl
        have H13 := Aside0.mk h13
        have H14 := Aside0.mk h14
        clear hA hk hsub hl h13 h14
        by_cases hlt : i < n
        · have q1 : ((i : Int) < (n : Int)) = True := eq_true (by omega)
          have q2 : (0 ≤ (i : Int)) = True := eq_true (by omega)
          have q3 : ((i : Int) < (nw : Int)) = True := eq_true (by have := HN5.out; omega)
          have q4 : ((i : Int) < 5) = True := eq_true (by omega)
          obtain ⟨ad, rfl, cw0⟩ := (show RI wr A ws from ReadsOf.below HW.out HL.out.bel).at_ i (by have := HN5.out; omega)
          have z13 := H13.out.cell i (by omega)
          have f13 := H13.out.frozen i
          go_upto_region 20 with (go_at_call 6; go_loud (refine (lcut_calls _ 1 20 (by decide) (by decide) (by decide) _).mono ?_); rintro en wq ⟨rfl, rfl⟩)
          have hx : cutF (ws[i]?.getD 0) 1 20 = wt i := by rw [HWE.out]; show _ = cutF (ws.getD i 0) 1 20; rw [List.getD_eq_getElem?_getD]
          rw [hx]
          obtain ⟨wx, hwx⟩ : ∃ wx, wx = wq.setCell ⟨b13, i, none⟩ (.int .i64 (wt i)) := ⟨_, rfl⟩
          rw [← hwx]
          have HLx := Aside0.mk (show LW bm w g K e S wx from hwx ▸ HL.out.set H13.out i _)
          have H13x := Aside0.mk (show Own5 w S wx b13 (fun k => if k < i + 1 then wt k else 0) from (show Own5 w S wx b13 _ from hwx ▸ H13.out.set i (wt i) (by omega)).same (fun k _ => by
            by_cases hk : k = i
            · rw [hk, upf_same, if_pos (by omega)]
            · rw [upf_far _ _ _ hk]
              by_cases h2 : k < i
              · rw [if_pos h2, if_pos (by omega)]
              · rw [if_neg h2, if_neg (by omega)]))
          have H14x := Aside0.mk (show Own5 w S wx (b13 + 1) (fun _ => 0) from hwx ▸ H14.out.far (by omega) i _)
          clear hwx hx cw0 z13 f13
          have z13 : wx.cell? ⟨b13, i, none⟩ = some (.int .i64 (wt i)) := by have := H13x.out.cell i (by omega); rw [if_pos (by omega)] at this; exact this
          go_upto_region 21 with (go_at_call 8; go_loud (refine (doSubmit (C := kcF n q) (cost := cost) (n := n) (wt := wt) (HSUB.out (by omega)) hlt (HWT.out i) (wt i) 4 rfl rfl HLx.out.at_ HLx.out.glb).mono ?_); rintro en wy ⟨a, b, cc, d, f, er, ey, Ky, rfl, hq, hto⟩; obtain ⟨rfl, rfl, hsub⟩ := hq.out; have HLy := Aside0.mk (HLx.out.step hto.out); have H13y := Aside0.mk (H13x.out.step HLx.out hto.out); have H14y := Aside0.mk (H14x.out.step HLx.out hto.out); have HSy := Aside0.mk hsub; clear hq hto hsub)
          obtain ⟨wz, hwz⟩ : ∃ wz, wz = wy.alloc (.cells #[.int .i64 (i : Int), .int .i64 b, .int .i64 cc, .int .i64 d, .int .i64 f] 34) := ⟨_, rfl⟩
          rw [← hwz]
          have hbz : Below wy.heap.size wy wz := hwz ▸ below_alloc (Below.refl _ wy) _
          have HLz := Aside0.mk (HLy.out.below hbz)
          have H13z := Aside0.mk (H13y.out.below hbz)
          have H14z := Aside0.mk (H14y.out.below hbz)
          have HXz := Aside0.mk (show wz.heap[wy.heap.size]? = some (.cells #[.int .i64 (i : Int), .int .i64 b, .int .i64 cc, .int .i64 d, .int .i64 f] 34 (0, 0)) from hwz ▸ heap_alloc_new wy _)
          clear hwz hbz z13
          have y0 := (blk_cell HXz.out 0).trans (show _ = some (Value.int .i64 (i : Int)) from rfl)
          go_wp2
          go_roundg (gk - 1)
          case measure => have := HK.out; omega
          case rel => exact ⟨i + 1, Ky, ey, _, by rw [show ((i : Int) + 1) = ((i + 1 : Nat) : Int) by omega], ⟨by have := HK.out; omega, by omega, fun _ => HSy.out, HLz.out, H13z.out, H14z.out⟩⟩
        · have q1 : ((i : Int) < (n : Int)) = False := eq_false (by omega)
          obtain rfl : n = i := by omega
          obtain ⟨wo2, rfl⟩ : ∃ wo2 : World, wo2 = wr := ⟨_, rfl⟩
          obtain ⟨go2, rfl⟩ : ∃ go2 : Nat, go2 = gk := ⟨_, rfl⟩
          go_wp2
          go_loopg [18] 201 (fun kq v18 wr => ∃ (k a : Nat) (K : EK) (e : Eng) (S : Nat → Prop) (got : Nat → Int), v18 = .int .i64 (k : Int) ∧ Aside0 (kq + k = 201 ∧ k ≤ 200 ∧ (1 ≤ n → a < n ∧ Mid (kcF n q) cost n wt a 1 false false k (2 * k) (2 * k) e got ∧ ∀ i, i < n → 0 ≤ got i ∧ got i ≤ 60 * k) ∧ LW bm w g K e S wr ∧ Own5 w S wr b13 (fun k => if k < n then wt k else 0) ∧ Own5 w S wr (b13 + 1) (fun k => if k < n then got k else 0)))
          case atStart => exact ⟨0, 0, K, e, S, fun _ => 0, rfl, ⟨by omega, by omega, fun h1 => ⟨by omega, (HSUB.out h1).mid HC0.out (fun i _ => HWT.out i), fun i _ => ⟨Int.le_refl _, Int.le_refl _⟩⟩, HL.out, H13.out, H14.out.same (fun i _ => by split <;> rfl)⟩⟩
          case round =>
            clear HSUB HL H13 H14
            obtain ⟨k, a, K, e, S, got, rfl, hA⟩ := hrel
            obtain ⟨hk, hk2, hmid, hl, h13, h14⟩ := hA.out
            have HK := Aside0.mk hk
            have HMID := Aside0.mk hmid
            have HL := Aside0.mk hl
            have H13 := Aside0.mk h13
            have H14 := Aside0.mk h14
            clear hA hk hmid hl h13 h14
            by_cases hn0 : 1 ≤ n
            · have q1 : (0 < (n : Int)) = True := eq_true (by omega)
              by_cases hk3 : k < 200
              · have q2 : ((k : Int) < 200) = True := eq_true (by omega)
                obtain ⟨ha, hmd, hgot⟩ := HMID.out hn0
                have HA := Aside0.mk ha
                have HM := Aside0.mk hmd
                have HGOT := Aside0.mk hgot
                clear ha hmd hgot HMID
                go_upto_region 27 with (go_at_call 8; go_loud (refine (doDispatch HM.out ⟨HC0.out.1, by have := HC0.out; omega⟩ (by omega) (by omega) HL.out.at_ HL.out.glb).mono ?_); rintro en wy ⟨x1, x2, x3, x4, x5, er, ey, Ky, rfl, hq, hto⟩; obtain ⟨rfl, b, hbn, rfl, rfl, hep, hmid, -⟩ := hq.out; have HLy := Aside0.mk (HL.out.step hto.out); have H13y := Aside0.mk (H13.out.step HL.out hto.out); have H14y := Aside0.mk (H14.out.step HL.out hto.out); have HMy := Aside0.mk hmid; have HEP := Aside0.mk hep; clear hq hto hmid hep)
                obtain ⟨wz, hwz⟩ : ∃ wz, wz = wy.alloc (.cells #[.int .i64 (b : Int), .int .i64 x2, .int .i64 x3, .int .i64 0, .int .i64 x5] 34) := ⟨_, rfl⟩
                rw [← hwz]
                have hbz : Below wy.heap.size wy wz := hwz ▸ below_alloc (Below.refl _ wy) _
                have HLz := Aside0.mk (HLy.out.below hbz)
                have H13z := Aside0.mk (H13y.out.below hbz)
                have H14z := Aside0.mk (H14y.out.below hbz)
                have HXz := Aside0.mk (show wz.heap[wy.heap.size]? = some (.cells #[.int .i64 (b : Int), .int .i64 x2, .int .i64 x3, .int .i64 0, .int .i64 x5] 34 (0, 0)) from hwz ▸ heap_alloc_new wy _)
                obtain ⟨bz, hbz2⟩ : ∃ bz, wy.heap.size = bz := ⟨_, rfl⟩
                rw [hbz2] at HXz ⊢
                have HNZ := Aside0.mk (show ¬ nextS S wr wy bz ∧ b13 + 1 < bz from by rw [← hbz2]; exact ⟨fun e => absurd e.2 (Nat.lt_irrefl _), blk_lt H14y.out.blk⟩)
                obtain ⟨S2, hS2⟩ : ∃ S2 : Nat → Prop, nextS S wr wy = S2 := ⟨_, rfl⟩
                rw [hS2] at HLz H13z H14z HNZ
                clear hwz hbz hbz2 hS2 HLy H13y H14y
                have y0 := (blk_cell HXz.out 0).trans (show _ = some (Value.int .i64 (b : Int)) from rfl)
                have r1 : ((b : Int) < 0) = False := eq_false (by omega)
                have r2 : ((n : Int) ≤ (b : Int)) = False := eq_false (by omega)
                have r3 : (0 ≤ (b : Int)) = True := eq_true (by omega)
                have r4 : ((b : Int) < 5) = True := eq_true (by omega)
                go_upto_region 29 with (fail)
                refine wp_region_any (by kernel_rfl) ?_
                obtain ⟨w1, hw1⟩ : ∃ w1 : World, w1 = { wz with drawn := wz.drawn + 1 } := ⟨_, rfl⟩
                rw [← hw1]
                have hb1 : Below wz.heap.size wz w1 := hw1 ▸ pw_below_drewN (Below.refl _ wz) 1
                have HL1 := Aside0.mk (HLz.out.below hb1)
                have H131 := Aside0.mk (H13z.out.below hb1)
                have H141 := Aside0.mk (H14z.out.below hb1)
                have HX1 := Aside0.mk (blk_below HXz.out hb1)
                clear hw1 hb1 y0
                have y0 := (blk_cell HX1.out 0).trans (show _ = some (Value.int .i64 (b : Int)) from rfl)
                obtain ⟨gb, hgb⟩ : ∃ gb, got b = gb := ⟨_, rfl⟩
                have hgb2 : 0 ≤ gb ∧ gb ≤ 12000 := by have := HGOT.out b hbn; omega
                have hcb := HC0.out
                have HGB := Aside0.mk hgb
                have z14 : w1.cell? ⟨b13 + 1, b, none⟩ = some (.int .i64 gb) := by have := H141.out.cell b (by omega); rw [if_pos hbn, hgb] at this; exact this
                clear hgb
                refine Qt.wpAny_quiet_tail 9 (List.range 9) (fun l => l.take 9) _ _ rfl rfl (by kernel_rfl) ?_
                simp only [List.take_succ_cons, List.take_zero, List.drop_succ_cons, List.drop_zero, List.cons_append, List.nil_append, Act.put, List.getElem_toArray, List.getElem_cons_succ, List.getElem_cons_zero, List.setIfInBounds_toArray, List.set_cons_succ, List.set_cons_zero]
                repeat (go_big_quiet_step ((fail)))
                refine wpQuiet_nil ?_
                intro w9 hw9
                have hb9 : Below w1.heap.size w1 w9 := by obtain ⟨m, rfl⟩ := hw9; exact pw_below_drewN (Below.refl _ _) m
                have HL9 := Aside0.mk (HL1.out.below hb9)
                have H139 := Aside0.mk (H131.out.below hb9)
                have H149 := Aside0.mk (H141.out.below hb9)
                have HX9 := Aside0.mk (blk_below HX1.out hb9)
                clear hw9 hb9 y0 z14
                have z14 : w9.cell? ⟨b13 + 1, b, none⟩ = some (.int .i64 gb) := by have := H149.out.cell b (by omega); rw [if_pos hbn, HGB.out] at this; exact this
                have f14 := H149.out.frozen b
                go_upto_region 30 with (fail)
                obtain ⟨wA, hwA⟩ : ∃ wA, wA = w9.setCell ⟨b13 + 1, b, none⟩ (.int .i64 (gb + cost)) := ⟨_, rfl⟩
                rw [← hwA]
                have HLA := Aside0.mk (show LW bm w g Ky ey S2 wA from hwA ▸ HL9.out.set H149.out b _)
                have H13A := Aside0.mk (show Own5 w S2 wA b13 (fun k => if k < n then wt k else 0) from hwA ▸ H139.out.far (by omega) b _)
                have H14A := Aside0.mk (show Own5 w S2 wA (b13 + 1) (fun k => if k < n then upf got b (got b + cost) k else 0) from (show Own5 w S2 wA (b13 + 1) _ from hwA ▸ H149.out.set b (gb + cost) (by omega)).same (fun k _ => by
                  by_cases hk : k = b
                  · rw [hk, upf_same, if_pos hbn, upf_same, HGB.out]
                  · rw [upf_far _ _ _ hk, upf_far _ _ _ hk]))
                have HXA := Aside0.mk (show wA.heap[bz]? = some (.cells #[.int .i64 (b : Int), .int .i64 x2, .int .i64 x3, .int .i64 0, .int .i64 x5] 34 (0, 0)) from hwA ▸ (((Chg.refl (fun k => k = b13 + 1) w9).set rfl _ _).block bz (blk_lt HX9.out) (fun e => by have := HNZ.out.2; omega)).trans HX9.out)
                clear hwA z14 f14
                have y3 := (blk_cell HXA.out 3).trans (show _ = some (Value.int .i64 0) from rfl)
                have y4 := (blk_cell HXA.out 4).trans (show _ = some (Value.int .i64 x5) from rfl)
                go_upto_region 31 with (go_at_call 8; go_loud (refine (doAnswer HMy.out hbn (show ((2 * k + 1 : Nat) : Int) + 1 < 1000 by omega) (by omega) HLA.out.at_ HLA.out.glb x5 HEP.out).mono ?_); rintro en wB ⟨v1, v2, v3, v4, v5, er, eB, KB, rfl, hq, hto⟩; obtain ⟨rfl, hmid, hkey, -⟩ := hq.out; have HLB := Aside0.mk (HLA.out.step hto.out); have H13B := Aside0.mk (H13A.out.step HLA.out hto.out); have H14B := Aside0.mk (H14A.out.step HLA.out hto.out); have HMB := Aside0.mk hmid; have HKB := Aside0.mk hkey; clear hq hto hmid hkey)
                clear y3 y4
                obtain ⟨wC, hwC⟩ : ∃ wC, wC = wB.alloc (.cells #[.int .i64 v1, .int .i64 v2, .int .i64 v3, .int .i64 v4, .int .i64 v5] 34) := ⟨_, rfl⟩
                rw [← hwC]
                have hbC : Below wB.heap.size wB wC := hwC ▸ below_alloc (Below.refl _ wB) _
                have HLC := Aside0.mk (HLB.out.below hbC)
                have H13C := Aside0.mk (H13B.out.below hbC)
                have H14C := Aside0.mk (H14B.out.below hbC)
                obtain ⟨S3, hS3⟩ : ∃ S3 : Nat → Prop, nextS S2 wA wB = S3 := ⟨_, rfl⟩
                rw [hS3] at HLC H13C H14C
                clear hwC hbC hS3 HLB H13B H14B
                go_upto_region 32 with (go_at_call 8; go_loud (refine (doTick HMB.out hbn (by omega) (by omega) HKB.out HLC.out.at_ HLC.out.glb).mono ?_); rintro en wD ⟨t1, t2, t3, t4, t5, er, eD, KD, rfl, hq, hto⟩; obtain ⟨rfl, hmid, -⟩ := hq.out; have HLD := Aside0.mk (HLC.out.step hto.out); have H13D := Aside0.mk (H13C.out.step HLC.out hto.out); have H14D := Aside0.mk (H14C.out.step HLC.out hto.out); have HMD := Aside0.mk hmid; clear hq hto hmid)
                obtain ⟨wE, hwE⟩ : ∃ wE, wE = wD.alloc (.cells #[.int .i64 t1, .int .i64 t2, .int .i64 t3, .int .i64 t4, .int .i64 t5] 34) := ⟨_, rfl⟩
                rw [← hwE]
                have hbE : Below wD.heap.size wD wE := hwE ▸ below_alloc (Below.refl _ wD) _
                have HLE := Aside0.mk (HLD.out.below hbE)
                have H13E := Aside0.mk (H13D.out.below hbE)
                have H14E := Aside0.mk (H14D.out.below hbE)
                obtain ⟨S4, hS4⟩ : ∃ S4 : Nat → Prop, nextS S3 wC wD = S4 := ⟨_, rfl⟩
                rw [hS4] at HLE H13E H14E
                clear hwE hbE hS4 HLD H13D H14D
                have HGE := Aside0.mk (show ∀ i, i < n → 0 ≤ upf got b (got b + cost) i ∧ upf got b (got b + cost) i ≤ 60 * ((k + 1 : Nat) : Int) from fun i hi => by
                  by_cases hib : i = b
                  · rw [hib, upf_same]; have := HGOT.out b hbn; omega
                  · rw [upf_far _ _ _ hib]; have := HGOT.out i hi; omega)
                obtain ⟨gt, hgt⟩ : ∃ gt, upf got b (got b + cost) = gt := ⟨_, rfl⟩
                rw [hgt] at HGE HMD H14E
                clear hgt hgb2
                go_upto_region 34 with (fail)
                obtain ⟨wo3, rfl⟩ : ∃ wo3 : World, wo3 = wr := ⟨_, rfl⟩
                obtain ⟨go3, rfl⟩ : ∃ go3 : Nat, go3 = gk := ⟨_, rfl⟩
                have hq60 := HQ0.out
                clear r1 r2 r3 r4 q1 q2
                go_wp2
                go_loopg [25] (n + 1) (fun kq v25 wr => ∃ (a : Nat), v25 = .int .i64 (a : Int) ∧ Aside0 (kq + a = n + 1 ∧ a ≤ n ∧ Below wE.heap.size wE wr))
                case atStart => exact ⟨0, rfl, ⟨by omega, by omega, Below.refl _ _⟩⟩
                case round =>
                  obtain ⟨a1, rfl, hA⟩ := hrel
                  obtain ⟨hk1, ha1, hbel1⟩ := hA.out
                  have HK1 := Aside0.mk hk1
                  have HB1 := Aside0.mk hbel1
                  clear hA hk1 hbel1
                  obtain ⟨wo4, rfl⟩ : ∃ wo4 : World, wo4 = wr := ⟨_, rfl⟩
                  obtain ⟨go4, rfl⟩ : ∃ go4 : Nat, go4 = gk := ⟨_, rfl⟩
                  by_cases hal : a1 < n
                  · have p1 : ((a1 : Int) < (n : Int)) = True := eq_true (by omega)
                    go_wp2
                    go_loopg [26] (n + 1) (fun kq v26 wr => ∃ (a : Nat), v26 = .int .i64 (a : Int) ∧ Aside0 (kq + a = n + 1 ∧ a ≤ n ∧ Below wE.heap.size wE wr))
                    case atStart => exact ⟨0, rfl, ⟨by omega, by omega, HB1.out⟩⟩
                    case round =>
                      obtain ⟨a2, rfl, hA⟩ := hrel
                      obtain ⟨hk2, ha2, hbel2⟩ := hA.out
                      have HK2 := Aside0.mk hk2
                      have HB2 := Aside0.mk hbel2
                      clear hA hk2 hbel2
                      by_cases hbl : a2 < n
                      · have p2 : ((a2 : Int) < (n : Int)) = True := eq_true (by omega)
                        have p3 : (0 ≤ (a2 : Int)) = True := eq_true (by omega)
                        have p4 : ((a2 : Int) < 5) = True := eq_true (by omega)
                        have p5 : (0 ≤ (a1 : Int)) = True := eq_true (by omega)
                        have p6 : ((a1 : Int) < 5) = True := eq_true (by omega)
                        have hlaw := HMD.out.fair.law HMD.out.inv.tu HC0.out.1 HQ0.out.1 a1 a2 hal hbl (fun i _ => (HWT.out i).1)
                        have c1 : wr.cell? ⟨b13, a2, none⟩ = some (.int .i64 (wt a2)) := by have := (H13E.out.below HB2.out).cell a2 (by omega); rw [if_pos hbl] at this; exact this
                        have c2 : wr.cell? ⟨b13 + 1, a2, none⟩ = some (.int .i64 (gt a2)) := by have := (H14E.out.below HB2.out).cell a2 (by omega); rw [if_pos hbl] at this; exact this
                        have c3 : wr.cell? ⟨b13, a1, none⟩ = some (.int .i64 (wt a1)) := by have := (H13E.out.below HB2.out).cell a1 (by omega); rw [if_pos hal] at this; exact this
                        have c4 : wr.cell? ⟨b13 + 1, a1, none⟩ = some (.int .i64 (gt a1)) := by have := (H14E.out.below HB2.out).cell a1 (by omega); rw [if_pos hal] at this; exact this
                        have b1 := HWT.out a2
                        have b2 := HGE.out a2 hbl
                        have b3 := HWT.out a1
                        have b4 := HGE.out a1 hal
                        have HCE := Aside0.mk (And.intro c1 (And.intro c2 (And.intro c3 c4)))
                        clear c1 c2 c3 c4
                        obtain ⟨wb, hwb⟩ : ∃ x, wt a2 = x := ⟨_, rfl⟩
                        obtain ⟨gb2, hgb⟩ : ∃ x, gt a2 = x := ⟨_, rfl⟩
                        obtain ⟨wa1, hwa1⟩ : ∃ x, wt a1 = x := ⟨_, rfl⟩
                        obtain ⟨ga1, hga1⟩ : ∃ x, gt a1 = x := ⟨_, rfl⟩
                        rw [hwb, hgb, hwa1, hga1] at HCE
                        rw [hwb] at b1
                        rw [hgb] at b2
                        rw [hwa1] at b3
                        rw [hga1] at b4
                        have hlaw2 : ga1 * wb ≤ (gb2 + (2 * q + cost) * wb) * wa1 := by rw [← hwb, ← hgb, ← hwa1, ← hga1]; exact hlaw
                        clear hwb hgb hwa1 hga1 hlaw
                        obtain ⟨P, s, hP, hP2, hs, QS, QT, QC⟩ := pair_law hq60 HC0.out b3 b1 (by omega) (by omega) hlaw2
                        have hs0 : (0 < s) = False := eq_false (by omega)
                        have HG12 := Aside0.mk (show (0 ≤ gb2 ∧ gb2 ≤ 12060) ∧ 0 ≤ ga1 ∧ ga1 ≤ 12060 from by omega)
                        clear hlaw2 b2 b4 hs
                        have b5 := HG12.out
                        obtain ⟨c1, c2, c3, c4⟩ := HCE.out
                        go_upto_region 40 with (fail)
                        go_quiet ((go_at_call 9; exact Calls.quiet_of ((QS.out _).mono fun _ _ ⟨h1, h2⟩ => ⟨h1, h2.out⟩)))
                        obtain ⟨w11, hw11⟩ : ∃ w11, w11 = wr.drewN nq := ⟨_, rfl⟩
                        rw [← hw11]
                        have hb11 : Below wr.heap.size wr w11 := hw11 ▸ pw_below_drewN (Below.refl _ _) nq
                        have HB3 := Aside0.mk (below_step HB2.out hb11)
                        have d1 := pw_cell_below hb11 c1
                        have d2 := pw_cell_below hb11 c2
                        have d3 := pw_cell_below hb11 c3
                        have d4 := pw_cell_below hb11 c4
                        clear hw11 hb11 c1 c2 c3 c4
                        go_upto_region 41 with (fail)
                        go_quiet (first
                          | (go_at_call 9; exact Calls.quiet_of ((QT.out _).mono fun _ _ ⟨h1, h2⟩ => ⟨h1, h2.out⟩))
                          | (go_at_call 10; exact Calls.quiet_of ((QC.out _).mono fun _ _ ⟨h1, h2⟩ => ⟨h1, h2.out⟩)))
                        go_wp2
                        go_roundg (gk - 1)
                        case measure => have := HK2.out; omega
                        case rel => exact ⟨a2 + 1, by rw [show ((a2 : Int) + 1) = ((a2 + 1 : Nat) : Int) by omega], ⟨by have := HK2.out; omega, by omega, below_step HB3.out (pw_below_drewN (Below.refl _ _) _)⟩⟩
                      · have p2 : ((a2 : Int) < (n : Int)) = False := eq_false (by omega)
                        go_wp2
                        go_roundg (go4 - 1)
                        case measure => have := HK1.out; omega
                        case rel => exact ⟨a1 + 1, by rw [show ((a1 : Int) + 1) = ((a1 + 1 : Nat) : Int) by omega], ⟨by have := HK1.out; omega, by omega, HB2.out⟩⟩
                  · have p1 : ((a1 : Int) < (n : Int)) = False := eq_false (by omega)
                    go_wp2
                    go_roundg (go3 - 1)
                    case measure => have := HK.out; omega
                    case rel => exact ⟨k + 1, b, KD, eD, S4, gt, by rw [show ((k : Int) + 1) = ((k + 1 : Nat) : Int) by omega], ⟨by have := HK.out; omega, by omega, fun _ => ⟨hbn, HMD.out, HGE.out⟩, HLE.out.below HB1.out, H13E.out.below HB1.out, H14E.out.below HB1.out⟩⟩
              · have q2 : ((k : Int) < 200) = False := eq_false (by omega)
                go_wp2
                go_ret
                exact ⟨rfl, HL.out.bel⟩
            · have q1 : (0 < (n : Int)) = False := eq_false (by omega)
              go_wp2
              go_ret
              exact ⟨rfl, HL.out.bel⟩
end Go.Proofs.YtbpoapfkeinjnaaGreatDoor.Ld
namespace Go.Proofs.YtbpoapfkeinjnaaGreatDoor.topFair
open Go.ChangeShapes Go.WideShapes Go.ChangeAt Go.RowKit Go.Proofs.YtbpoapfkeinjnaaGreatDoor.Open Go.Proofs.YtbpoapfkeinjnaaGreatDoor.Ld Go.Proofs.YtbpoapfkeinjnaaGreatDoorW.PrintWords
open Go.ChangeMaps (open_string shut_string)
set_option linter.unusedVariables false
theorem own : ownKnob Tryz.prog.godebug = none := by kernel_rfl
theorem laidOut : laidOutB Tryz.prog = true := by kernel_rfl
def IsRow (k : IntKind) (w : World) (a : Option Addr) (len cap : Nat) (zs : List Int) : Prop :=
  (a = none ∧ len = 0 ∧ cap = 0 ∧ zs = []) ∨
  ∃ x, a = some x ∧ len ≤ cap ∧ cap ≤ maxLen ∧ zs.length = cap ∧ (∀ i, i < zs.length → w.cell? (x.add i) = some (.int k (zs.getD i 0))) ∧ ∀ n ∈ zs, (Lit.int k n).wf = true
set_option maxRecDepth 100000 in
theorem lifted (os : Os) (started : os.Started) (H : Type) (enc : TypeId × Value → H) :
    ReturnsInHanded {} Tryz.checked os 3 .any (fun w args => (Rows.topFairSpec.pre enc Tryz.prog Tryz.f3 [] false w args ∧ laidMetH Tryz.prog laidV w) ∧ sizedMet enc Tryz.prog Tryz.f3 (OpenSpec.ofChange Rows.topFairSpec) false w args) (Rows.topFairSpec.post enc Tryz.prog Tryz.f3 false true false false) := by
  refine returnsInHanded_of_change_and (C := Tryz.checked) (X := fun w _ => laidMetH Tryz.prog laidV w) (fun _ _ _ hh h => h.of_heap hh) own started (by kernel_rfl) Tryz.func3
    (ChangeSpec.witness_shaped (enc := enc) (C := Tryz.checked) (os := os) (X := fun w _ => laidMetH Tryz.prog laidV w) false (World.doorLaid Tryz.prog 34 os) #[.int .i64 0, .slice none 0 0, .int .i64 0] 8 rfl (World.shaped_of_RefB (by kernel_rfl) (by kernel_rfl)) (by kernel_rfl) (by kernel_rfl) (by kernel_rfl) (door_met os _)) ?_
  intro W base args ds gs before hval0 hW hcnd hsz0 hL _
  have hsz : (DataW.weightsEach Tryz.prog (Tryz.f3.params.toList ++ Rows.topFairSpec.plain.varTypes Tryz.prog) (ds ++ gs)).all (· ≤ reachBytes) = true := hsz0
  have hval : ∀ (j : Nat) t v, Tryz.f3.params[j]? = some t → args[j]? = some v → Value.okWide Tryz.prog W .any base t v := hval0
  have hW' := hW
  obtain ⟨p, q, hA0, hV, rfl, hfz, hnd⟩ := hW
  have hA : DataW.TrodAll enc Tryz.prog W 0 (fun _ => true) true Tryz.f3.params.toList args.toList ds p := hA0
  rw [Tryz.params3] at hA hval hsz
  obtain ⟨v0, vs0, d0, ds0, p0, q0, hargs, rfl, rfl, h0, r0⟩ := trodAll_cons hA
  obtain ⟨v1, vs1, d1, ds1, p1, q1, rfl, rfl, rfl, h1, r1⟩ := trodAll_cons r0
  obtain ⟨v2, vs2, d2, ds2, p2, q2, rfl, rfl, rfl, h2, r2⟩ := trodAll_cons r1
  obtain ⟨rfl, rfl, rfl⟩ := trodAll_nil r2
  obtain rfl : args = #[v0, v1, v2] := by cases args; simp_all
  obtain ⟨rfl, rfl⟩ := trodVars_none hV
  obtain ⟨a0, rfl, rfl, rfl, w0⟩ := open_int Tryz.underlying3 (hval 0 3 v0 rfl rfl) h0
  obtain ⟨A1, len1, c1, rfl⟩ := okWide_slice Tryz.underlying22 (hval 1 22 v1 rfl rfl)
  have k1 := h1
  have lt1 : ∀ x ∈ p1, x.block < W.heap.size := by obtain ⟨m, hm⟩ := k1; exact DataW.trod_lt m _ _ _ hm
  obtain ⟨z1, q1_⟩ : ∃ zs, IsRow .i64 W A1 len1 c1 zs := by
    obtain ⟨fuel, hf⟩ := h1
    rcases open_ints Tryz.underlying22 Tryz.underlying3 (by kernel_rfl) hf with ⟨hcs, _⟩ | ⟨x, l, c, zs, hcs, _, hl, hm, hz, _, hcell, hwz⟩
    · simp [Value.cells] at hcs
      obtain ⟨rfl, rfl, rfl⟩ := hcs
      exact ⟨[], .inl ⟨rfl, rfl, rfl, rfl⟩⟩
    · simp [Value.cells] at hcs
      obtain ⟨rfl, rfl, rfl⟩ := hcs
      exact ⟨zs, .inr ⟨_, rfl, hl, hm, by simpa using hz, hcell, hwz⟩⟩
  have hs1 : len1 * 8 ≤ 140737488351232 := sized_ints hsz (j := 1) (t := 22) rfl rfl Tryz.underlying22 Tryz.underlying3 (by kernel_rfl) (by kernel_rfl) h1
  obtain ⟨l1, rfl, hrr1, hm1, hw1, hc1⟩ := ReadsInt.ofRowC q1_
  have hr1 : Kd.C (Kd.int .i64) W A1 l1.length l1 := Kd.C_of_reads (d := (0 : Int)) (h1 := fun _ => rfl) hrr1
  obtain ⟨a2, rfl, rfl, rfl, w2⟩ := open_int Tryz.underlying3 (hval 2 3 v2 rfl rfl) h2
  clear hA0 hval0 hsz0 hsz
  obtain ⟨bm, hv⟩ := vars_of hL
  refine (TopFair_calls bm a0 a2 A1 l1.length c1 l1 W hv hrr1 rfl).mono fun e W' ⟨he, bel⟩ => ?_
  subst he
  exact ⟨_, rfl, _, _, _, [], _, [], hW', trodAll_mk1 (shut_bool Tryz.underlying4 _), (trodAll_cons_mk (shut_int Tryz.underlying3 w0) (trodAll_cons_mk (Below.trod laidOut (by kernel_rfl) (of_decide_eq_true (by kernel_rfl)) k1 bel lt1) (trodAll_cons_mk (shut_int Tryz.underlying3 w2) trodAll_mk0))), rfl, bel.frame _, fun h => by cases h⟩
theorem over : Rows.topFairRow.holds Tryz.pinned (OpenSpec.ofChange Rows.topFairSpec) :=
  OpenClaim.holds_of_wide 3 Tryz.f3 rfl rfl rfl rfl rfl rfl rfl ⟨rfl, rfl, rfl, rfl, rfl⟩ rfl rfl rfl rfl rfl (by kernel_rfl) Tryz.func3 (by kernel_rfl)
    (of_decide_eq_true (by kernel_rfl)) (by unfold Func.isWrapper; first | (rw [if_pos (by decide +kernel)]; kernel_rfl) | (rw [if_neg (by decide +kernel)]; exact ⟨rfl, rfl⟩))
    (fun os started H enc _ => lifted os started H enc)
theorem proved : Rows.TopFairSaid := over
end Go.Proofs.YtbpoapfkeinjnaaGreatDoor.topFair
namespace Go.Proofs.YtbpoapfkeinjnaaGreatDoor
theorem topFair_holds : Rows.TopFairSaid := topFair.proved
end Go.Proofs.YtbpoapfkeinjnaaGreatDoor
