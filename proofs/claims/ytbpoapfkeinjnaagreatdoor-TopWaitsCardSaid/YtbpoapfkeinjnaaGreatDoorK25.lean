/- The engine of the yard and what it leans on, part 25. -/
import Derived.Test.YtbpoapfkeinjnaaGreatDoorK24
namespace Go.Proofs.YtbpoapfkeinjnaaGreatDoor.Ld
open Go.RowKit Go.Proofs.YtbpoapfkeinjnaaGreatDoorW.PrintWords Go.Proofs.YtbpoapfkeinjnaaGreatDoorW.PrintLast Go.Proofs.YtbpoapfkeinjnaaGreatDoorW.PrintMore
set_option linter.unusedVariables false
set_option linter.unusedSimpArgs false
set_option linter.unnecessarySimpa false
attribute [local go_sem] max2_int min2_int max_two min_two
theorem run_mm {P : Program} (t : TypeId) (w : World) : (Instr.makeMap t none).run P w = .ok (.map (some w.heap.size)) (w.alloc (.map #[] 0)) := rfl
def OpPost (Rel : Value → Int → Eng → Prop) (S : Nat → Prop) (g : Nat) (w : World) (en : Ending) (w' : World) : Prop :=
  ∃ a b c d f er e' K', Rel (reply a b c d f) er e' ∧ en = .returned (.tuple #[.agg #[.int .i64 a, .int .i64 b, .int .i64 c, .int .i64 d, .int .i64 f], .int .i64 er]) ∧ To S w g K' e' w'
def opArgs (g : Nat) (o : Opr) : Array Value := #[.pointer (some ⟨g, 0, none⟩), .agg #[.int .i64 o.k, .int .i64 o.a, .int .i64 o.b, .int .i64 o.c, .int .i64 o.d]]
set_option maxHeartbeats 8000000 in
set_option maxRecDepth 100000 in
theorem do_of (S : Nat → Prop) (bm g : Nat) (K : EK) (e : Eng) (o : Opr) (w : World) (H : EngAt S w g K e) (hg : Glb bm S w) (hk : (Lit.int .i64 o.k).wf = true) (Rel : Value → Int → Eng → Prop) (h0 : mN o.k = 0 → Rel (reply 0 0 0 0 0) 1 e)
    (hM : mN o.k ≠ 0 → ∀ (w' : World) (S' : Nat → Prop), EngAt S' w' g K e → Glb bm S' w' → Calls Tryz.prog (mN o.k) (opArgs g o) w' (OpPost Rel S' g w')) :
    Calls Tryz.prog 8 (opArgs g o) w (OpPost Rel S g w) := by
  have HH0 := Aside0.mk h0
  have HM := Aside0.mk hM
  have HKW := Aside0.mk hk
  obtain ⟨w0, hw0⟩ : ∃ w0, w0 = (w.alloc (opO o)).alloc rep0 := ⟨_, rfl⟩
  have HW0 := Aside0.mk (show w0 = (w.alloc (.cells #[.int .i64 o.k, .int .i64 o.a, .int .i64 o.b, .int .i64 o.c, .int .i64 o.d] 39)).alloc (.cells #[.int .i64 0, .int .i64 0, .int .i64 0, .int .i64 0, .int .i64 0] 34) from hw0)
  have HL0 := Aside0.mk (show LD bm S w g K e (fun k => S k ∧ k < w.heap.size) w0 w.heap.size o from hw0 ▸ LD.start H hg o)
  clear H hg hw0 h0 hM hk
  unfold opArgs
  go_enter Tryz.func8, Tryz.ntmps8
  go_upto_region 1 with (fail)
  rw [← HW0.out]
  obtain ⟨B, hB⟩ : ∃ B, w.heap.size = B := ⟨_, rfl⟩
  rw [hB] at HL0 ⊢
  obtain ⟨S1, hS1⟩ : ∃ S1 : Nat → Prop, (fun k => S k ∧ k < B) = S1 := ⟨_, rfl⟩
  rw [hS1] at HL0
  clear hS1 hB
  have hmk := fun w => run_mm (P := Tryz.prog) 57 w
  obtain ⟨b, hb⟩ : ∃ b, w0.heap.size = b := ⟨_, rfl⟩
  have HO0 := Aside0.mk (show (w0.alloc (.map #[] 0)).ownsMap Tryz.prog 3 (Rm g) b 0 (.map []) from hb ▸ World.ownsMap_made w0 Tryz.prog 3 (Rm g))
  have HG0 := Aside0.mk (World.grownBy_alloc w0 (.map #[] 0) (some b))
  have HBB := Aside0.mk hb

  go_upto_region 2 with (first
    | ((refine wp_insert_own _ rfl (.tmp 7) (.const (.int .i64 1)) (.tmp 9) 57 rfl 3 37 (Go.Maps.int_keyed Tryz.underlying3) u57 (Rm g) b 0 (DataW.map []) rfl HO0.out (by decide) (.int .i64 1) (mth g 18) (.int .i64 1) rfl rfl (Go.Maps.keyOf_int_mk Tryz.underlying3 (by decide)) (L 18) [] (Rm_mth g 18 (by decide)) ?_); intro x1 hown hgr; have HO1 := Aside0.mk hown; have HG1 := Aside0.mk (HG0.out.trans hgr); clear hown hgr)
    | ((refine wp_insert_own _ rfl (.tmp 7) (.const (.int .i64 2)) (.tmp 11) 57 rfl 3 37 (Go.Maps.int_keyed Tryz.underlying3) u57 (Rm g) b 1 ((DataW.map []).put (.int .i64 1) (L 18)) rfl HO1.out (by decide) (.int .i64 2) (mth g 19) (.int .i64 2) rfl rfl (Go.Maps.keyOf_int_mk Tryz.underlying3 (by decide)) (L 19) [] (Rm_mth g 19 (by decide)) ?_); intro x2 hown hgr; have HO2 := Aside0.mk hown; have HG2 := Aside0.mk (HG1.out.trans hgr); clear hown hgr)
    | ((refine wp_insert_own _ rfl (.tmp 7) (.const (.int .i64 3)) (.tmp 13) 57 rfl 3 37 (Go.Maps.int_keyed Tryz.underlying3) u57 (Rm g) b 2 (((DataW.map []).put (.int .i64 1) (L 18)).put (.int .i64 2) (L 19)) rfl HO2.out (by decide) (.int .i64 3) (mth g 20) (.int .i64 3) rfl rfl (Go.Maps.keyOf_int_mk Tryz.underlying3 (by decide)) (L 20) [] (Rm_mth g 20 (by decide)) ?_); intro x3 hown hgr; have HO3 := Aside0.mk hown; have HG3 := Aside0.mk (HG2.out.trans hgr); clear hown hgr)
    | ((refine wp_insert_own _ rfl (.tmp 7) (.const (.int .i64 4)) (.tmp 15) 57 rfl 3 37 (Go.Maps.int_keyed Tryz.underlying3) u57 (Rm g) b 3 ((((DataW.map []).put (.int .i64 1) (L 18)).put (.int .i64 2) (L 19)).put (.int .i64 3) (L 20)) rfl HO3.out (by decide) (.int .i64 4) (mth g 21) (.int .i64 4) rfl rfl (Go.Maps.keyOf_int_mk Tryz.underlying3 (by decide)) (L 21) [] (Rm_mth g 21 (by decide)) ?_); intro x4 hown hgr; have HO4 := Aside0.mk hown; have HG4 := Aside0.mk (HG3.out.trans hgr); clear hown hgr)
    | ((refine wp_insert_own _ rfl (.tmp 7) (.const (.int .i64 5)) (.tmp 17) 57 rfl 3 37 (Go.Maps.int_keyed Tryz.underlying3) u57 (Rm g) b 4 (((((DataW.map []).put (.int .i64 1) (L 18)).put (.int .i64 2) (L 19)).put (.int .i64 3) (L 20)).put (.int .i64 4) (L 21)) rfl HO4.out (by decide) (.int .i64 5) (mth g 22) (.int .i64 5) rfl rfl (Go.Maps.keyOf_int_mk Tryz.underlying3 (by decide)) (L 22) [] (Rm_mth g 22 (by decide)) ?_); intro x5 hown hgr; have HO5 := Aside0.mk hown; have HG5 := Aside0.mk (HG4.out.trans hgr); clear hown hgr)
    | ((refine wp_insert_own _ rfl (.tmp 7) (.const (.int .i64 6)) (.tmp 19) 57 rfl 3 37 (Go.Maps.int_keyed Tryz.underlying3) u57 (Rm g) b 5 ((((((DataW.map []).put (.int .i64 1) (L 18)).put (.int .i64 2) (L 19)).put (.int .i64 3) (L 20)).put (.int .i64 4) (L 21)).put (.int .i64 5) (L 22)) rfl HO5.out (by decide) (.int .i64 6) (mth g 23) (.int .i64 6) rfl rfl (Go.Maps.keyOf_int_mk Tryz.underlying3 (by decide)) (L 23) [] (Rm_mth g 23 (by decide)) ?_); intro x6 hown hgr; have HO6 := Aside0.mk hown; have HG6 := Aside0.mk (HG5.out.trans hgr); clear hown hgr; have hbw : Below w0.heap.size w0 x6 := ⟨HG6.out.os, HG6.out.tape, HG6.out.output, HG6.out.size, fun k hk => HG6.out.block k hk (fun e => by injection e with e; have := HBB.out; omega)⟩; have HL6 := Aside0.mk (HL0.out.below hbw); have k0 := (HL0.out.below hbw).cells.1; obtain ⟨v, ps, hlook, hv⟩ := HO6.out.lookup (Go.Maps.int_keyed Tryz.underlying3) u57 (z37 x6) (Rm_nil g) (Go.Maps.keyOf_int_mk Tryz.underlying3 HKW.out); rw [D6_eq, D6_at] at hv; have HV := Aside0.mk hv; clear hv hbw))
  clear hlook k0 hmk hb
  have kqa := eq37a
  have kqb := eq37b
  rcases Rm_inv HV.out with ⟨hn, rfl⟩ | ⟨hv, hn⟩
  · have HN := Aside0.mk (HH0.out hn)
    clear hn
    obtain ⟨d0, d1, d2, d3, d4, fb⟩ := reply_cells HL6.out.b
    go_wp2
    obtain ⟨w9, hw9⟩ : ∃ w9, w9 = ((((x6.setCell ⟨B + 1, 0, none⟩ (.int .i64 0)).setCell ⟨B + 1, 1, none⟩ (.int .i64 0)).setCell ⟨B + 1, 2, none⟩ (.int .i64 0)).setCell ⟨B + 1, 3, none⟩ (.int .i64 0)).setCell ⟨B + 1, 4, none⟩ (.int .i64 0) := ⟨_, rfl⟩
    rw [← hw9]
    obtain ⟨⟨y0, y1, y2, y3, y4⟩, hto⟩ := HL6.out.done _ _ _ _ _ hw9
    refine bodyPost_ret (v := .tuple #[.agg #[.int .i64 0, .int .i64 0, .int .i64 0, .int .i64 0, .int .i64 0], .int .i64 1]) (by simp [results, Tryz.results8, go_sem, y0, y1, y2, y3, y4]) rfl ?_
    exact ⟨0, 0, 0, 0, 0, 1, e, K, HN.out, rfl, hto⟩
  · have HE := Aside0.mk (HM.out (by omega) x6 S1 HL6.out.l.at_ HL6.out.g)
    obtain ⟨k0, k1, k2, k3, k4⟩ := HL6.out.cells
    have hn23 : mN o.k ≤ 23 := by unfold mN; repeat' split
                                  all_goals omega
    unfold opArgs at HE
    unfold mth at hv
    rcases (show mN o.k = 18 ∨ mN o.k = 19 ∨ mN o.k = 20 ∨ mN o.k = 21 ∨ mN o.k = 22 ∨ mN o.k = 23 by omega) with h | h | h | h | h | h
    · rw [h] at hv HE
      subst hv
      clear h hn hn23
      go_wp2_with (go_at_call 18; go_loud (refine HE.out.mono ?_); rintro en w7 ⟨ra, rb, rc, rd, rf, er, e7, K7, hrel, rfl, hto⟩; have HREL := Aside0.mk hrel; have HL7 := Aside0.mk (HL6.out.step hto); obtain ⟨d0, d1, d2, d3, d4, fb⟩ := reply_cells (HL6.out.step hto).b; clear hrel hto)
      obtain ⟨w9, hw9⟩ : ∃ w9, w9 = ((((w7.setCell ⟨B + 1, 0, none⟩ (.int .i64 ra)).setCell ⟨B + 1, 1, none⟩ (.int .i64 rb)).setCell ⟨B + 1, 2, none⟩ (.int .i64 rc)).setCell ⟨B + 1, 3, none⟩ (.int .i64 rd)).setCell ⟨B + 1, 4, none⟩ (.int .i64 rf) := ⟨_, rfl⟩
      rw [← hw9]
      obtain ⟨⟨y0, y1, y2, y3, y4⟩, hto⟩ := HL7.out.done _ _ _ _ _ hw9
      refine bodyPost_ret (v := .tuple #[.agg #[.int .i64 ra, .int .i64 rb, .int .i64 rc, .int .i64 rd, .int .i64 rf], .int .i64 er]) (by simp [results, Tryz.results8, go_sem, y0, y1, y2, y3, y4]) rfl ?_
      exact ⟨ra, rb, rc, rd, rf, er, e7, K7, HREL.out, rfl, hto⟩
    · rw [h] at hv HE
      subst hv
      clear h hn hn23
      go_wp2_with (go_at_call 19; go_loud (refine HE.out.mono ?_); rintro en w7 ⟨ra, rb, rc, rd, rf, er, e7, K7, hrel, rfl, hto⟩; have HREL := Aside0.mk hrel; have HL7 := Aside0.mk (HL6.out.step hto); obtain ⟨d0, d1, d2, d3, d4, fb⟩ := reply_cells (HL6.out.step hto).b; clear hrel hto)
      obtain ⟨w9, hw9⟩ : ∃ w9, w9 = ((((w7.setCell ⟨B + 1, 0, none⟩ (.int .i64 ra)).setCell ⟨B + 1, 1, none⟩ (.int .i64 rb)).setCell ⟨B + 1, 2, none⟩ (.int .i64 rc)).setCell ⟨B + 1, 3, none⟩ (.int .i64 rd)).setCell ⟨B + 1, 4, none⟩ (.int .i64 rf) := ⟨_, rfl⟩
      rw [← hw9]
      obtain ⟨⟨y0, y1, y2, y3, y4⟩, hto⟩ := HL7.out.done _ _ _ _ _ hw9
      refine bodyPost_ret (v := .tuple #[.agg #[.int .i64 ra, .int .i64 rb, .int .i64 rc, .int .i64 rd, .int .i64 rf], .int .i64 er]) (by simp [results, Tryz.results8, go_sem, y0, y1, y2, y3, y4]) rfl ?_
      exact ⟨ra, rb, rc, rd, rf, er, e7, K7, HREL.out, rfl, hto⟩
    · rw [h] at hv HE
      subst hv
      clear h hn hn23
      go_wp2_with (go_at_call 20; go_loud (refine HE.out.mono ?_); rintro en w7 ⟨ra, rb, rc, rd, rf, er, e7, K7, hrel, rfl, hto⟩; have HREL := Aside0.mk hrel; have HL7 := Aside0.mk (HL6.out.step hto); obtain ⟨d0, d1, d2, d3, d4, fb⟩ := reply_cells (HL6.out.step hto).b; clear hrel hto)
      obtain ⟨w9, hw9⟩ : ∃ w9, w9 = ((((w7.setCell ⟨B + 1, 0, none⟩ (.int .i64 ra)).setCell ⟨B + 1, 1, none⟩ (.int .i64 rb)).setCell ⟨B + 1, 2, none⟩ (.int .i64 rc)).setCell ⟨B + 1, 3, none⟩ (.int .i64 rd)).setCell ⟨B + 1, 4, none⟩ (.int .i64 rf) := ⟨_, rfl⟩
      rw [← hw9]
      obtain ⟨⟨y0, y1, y2, y3, y4⟩, hto⟩ := HL7.out.done _ _ _ _ _ hw9
      refine bodyPost_ret (v := .tuple #[.agg #[.int .i64 ra, .int .i64 rb, .int .i64 rc, .int .i64 rd, .int .i64 rf], .int .i64 er]) (by simp [results, Tryz.results8, go_sem, y0, y1, y2, y3, y4]) rfl ?_
      exact ⟨ra, rb, rc, rd, rf, er, e7, K7, HREL.out, rfl, hto⟩
    · rw [h] at hv HE
      subst hv
      clear h hn hn23
      go_wp2_with (go_at_call 21; go_loud (refine HE.out.mono ?_); rintro en w7 ⟨ra, rb, rc, rd, rf, er, e7, K7, hrel, rfl, hto⟩; have HREL := Aside0.mk hrel; have HL7 := Aside0.mk (HL6.out.step hto); obtain ⟨d0, d1, d2, d3, d4, fb⟩ := reply_cells (HL6.out.step hto).b; clear hrel hto)
      obtain ⟨w9, hw9⟩ : ∃ w9, w9 = ((((w7.setCell ⟨B + 1, 0, none⟩ (.int .i64 ra)).setCell ⟨B + 1, 1, none⟩ (.int .i64 rb)).setCell ⟨B + 1, 2, none⟩ (.int .i64 rc)).setCell ⟨B + 1, 3, none⟩ (.int .i64 rd)).setCell ⟨B + 1, 4, none⟩ (.int .i64 rf) := ⟨_, rfl⟩
      rw [← hw9]
      obtain ⟨⟨y0, y1, y2, y3, y4⟩, hto⟩ := HL7.out.done _ _ _ _ _ hw9
      refine bodyPost_ret (v := .tuple #[.agg #[.int .i64 ra, .int .i64 rb, .int .i64 rc, .int .i64 rd, .int .i64 rf], .int .i64 er]) (by simp [results, Tryz.results8, go_sem, y0, y1, y2, y3, y4]) rfl ?_
      exact ⟨ra, rb, rc, rd, rf, er, e7, K7, HREL.out, rfl, hto⟩
    · rw [h] at hv HE
      subst hv
      clear h hn hn23
      go_wp2_with (go_at_call 22; go_loud (refine HE.out.mono ?_); rintro en w7 ⟨ra, rb, rc, rd, rf, er, e7, K7, hrel, rfl, hto⟩; have HREL := Aside0.mk hrel; have HL7 := Aside0.mk (HL6.out.step hto); obtain ⟨d0, d1, d2, d3, d4, fb⟩ := reply_cells (HL6.out.step hto).b; clear hrel hto)
      obtain ⟨w9, hw9⟩ : ∃ w9, w9 = ((((w7.setCell ⟨B + 1, 0, none⟩ (.int .i64 ra)).setCell ⟨B + 1, 1, none⟩ (.int .i64 rb)).setCell ⟨B + 1, 2, none⟩ (.int .i64 rc)).setCell ⟨B + 1, 3, none⟩ (.int .i64 rd)).setCell ⟨B + 1, 4, none⟩ (.int .i64 rf) := ⟨_, rfl⟩
      rw [← hw9]
      obtain ⟨⟨y0, y1, y2, y3, y4⟩, hto⟩ := HL7.out.done _ _ _ _ _ hw9
      refine bodyPost_ret (v := .tuple #[.agg #[.int .i64 ra, .int .i64 rb, .int .i64 rc, .int .i64 rd, .int .i64 rf], .int .i64 er]) (by simp [results, Tryz.results8, go_sem, y0, y1, y2, y3, y4]) rfl ?_
      exact ⟨ra, rb, rc, rd, rf, er, e7, K7, HREL.out, rfl, hto⟩
    · rw [h] at hv HE
      subst hv
      clear h hn hn23
      go_wp2_with (go_at_call 23; go_loud (refine HE.out.mono ?_); rintro en w7 ⟨ra, rb, rc, rd, rf, er, e7, K7, hrel, rfl, hto⟩; have HREL := Aside0.mk hrel; have HL7 := Aside0.mk (HL6.out.step hto); obtain ⟨d0, d1, d2, d3, d4, fb⟩ := reply_cells (HL6.out.step hto).b; clear hrel hto)
      obtain ⟨w9, hw9⟩ : ∃ w9, w9 = ((((w7.setCell ⟨B + 1, 0, none⟩ (.int .i64 ra)).setCell ⟨B + 1, 1, none⟩ (.int .i64 rb)).setCell ⟨B + 1, 2, none⟩ (.int .i64 rc)).setCell ⟨B + 1, 3, none⟩ (.int .i64 rd)).setCell ⟨B + 1, 4, none⟩ (.int .i64 rf) := ⟨_, rfl⟩
      rw [← hw9]
      obtain ⟨⟨y0, y1, y2, y3, y4⟩, hto⟩ := HL7.out.done _ _ _ _ _ hw9
      refine bodyPost_ret (v := .tuple #[.agg #[.int .i64 ra, .int .i64 rb, .int .i64 rc, .int .i64 rd, .int .i64 rf], .int .i64 er]) (by simp [results, Tryz.results8, go_sem, y0, y1, y2, y3, y4]) rfl ?_
      exact ⟨ra, rb, rc, rd, rf, er, e7, K7, HREL.out, rfl, hto⟩
end Go.Proofs.YtbpoapfkeinjnaaGreatDoor.Ld
namespace Go.Proofs.YtbpoapfkeinjnaaGreatDoor.Ld
open Go.RowKit Go.Proofs.YtbpoapfkeinjnaaGreatDoorW.PrintWords Go.Proofs.YtbpoapfkeinjnaaGreatDoorW.PrintLast Go.Proofs.YtbpoapfkeinjnaaGreatDoorW.PrintMore
set_option linter.unusedVariables false
set_option linter.unusedSimpArgs false
set_option linter.unnecessarySimpa false
structure NewP (S : Nat → Prop) (ρ : Nat → Rl) (w : World) (g : Nat) (e : Eng) (V : EV) (N : Nat) (tds : List Td) : Prop where
  p : ∀ r, r ≠ .all → part ρ w g e V r
  all : RowAt (R ρ .all) w 29 2 V.va N (flat encTd tds)
  lt : ∀ k, ρ k ≠ .no → k < w.heap.size
  sub : ∀ k, ρ k ≠ .no → S k
theorem NewP.done {S : Nat → Prop} {ρ : Nat → Rl} {w : World} {g : Nat} {e : Eng} {V : EV} (h : NewP S ρ w g e V e.N e.tds) : EngP S ρ w g e V :=
  ⟨fun r => by by_cases hr : r = .all; subst hr; exact h.all; exact h.p r hr, h.lt, h.sub⟩
theorem NewP.keep {S : Nat → Prop} {ρ : Nat → Rl} {w w' : World} {g : Nat} {e : Eng} {V : EV} {N : Nat} {tds : List Td} (h : NewP S ρ w g e V N tds) (hb : Below w.heap.size w w') : NewP S ρ w' g e V N tds :=
  ⟨fun r hr => part_keep r (h.p r hr) (Keep.of_below hb) (fun _ _ => rfl), h.all.keep (Keep.of_below hb), fun k hk => Nat.lt_of_lt_of_le (h.lt k hk) hb.size, h.sub⟩
theorem NewP.push {S : Nat → Prop} {ρ : Nat → Rl} {w : World} {g : Nat} {e : Eng} {V : EV} {N : Nat} {tds : List Td} (h : NewP S ρ w g e V N tds) {wb w7 : World} {v6 : Value} {b lb : Nat} (hbw : Below w.heap.size w wb) (hb : w.heap.size ≤ b) (hlb : w.heap.size ≤ lb)
    (hbx : wb.heap[b]? = some (.cells #[.int .i64 (e.mem e.N), .int .i64 (e.cost e.N), ptrV lb, .int .i64 (e.waits e.N), .int .i64 (e.since e.N), V.cv e.N] 78 (0, 0))) (hlx : LifeAt wb lb (e.life e.N))
    (hp : Pushed (R ρ .tasks) w wb w7 74 1 V.vt v6 (e.N + 1) (slRow e.N (fun i => ptrV (V.tp i)) ++ [ptrV b]) g ((encEng e V).setIfInBounds 11 v6) 72) :
    ∃ ρ', NewP (up S w w7) ρ' w7 g { e with N := e.N + 1 } { V with vt := v6, tp := upf V.tp e.N b, lp := upf V.lp e.N lb } N tds := by
  have he := h.p .eng (by simp)
  have hl := h.p .tasks (by simp)
  have hblt := blk_lt hbx
  have hllt : lb < wb.heap.size := blk_lt hlx
  have hb7 : b < w7.heap.size := Nat.lt_of_lt_of_le hblt hp.lt
  have hl7 : lb < w7.heap.size := Nat.lt_of_lt_of_le hllt hp.lt
  have hb9 := (hp.new b hb hblt).trans hbx
  have hl9 := (hp.new lb hlb hllt).trans hlx
  have hne : b ≠ lb := fun e0 => by
    subst e0
    rw [hb9] at hl9
    injection hl9 with h1
    injection h1 with _ h2
    exact absurd h2 (by decide)
  obtain ⟨ρ', hρ'⟩ : ∃ ρ' : Nat → Rl, ρ' = fun k => if k = b then .task e.N else if k = lb then .life e.N else ext ρ w w7 .tasks k := ⟨_, rfl⟩
  have h_old : ∀ k, k < w.heap.size → ρ' k = ρ k := fun k hk => by
    rw [hρ']
    show (if k = b then _ else if k = lb then _ else _) = _
    rw [if_neg (by omega), if_neg (by omega)]
    exact ext_old k hk
  have hvb : ∀ k, v6.ownBlock = some k → k ≠ b ∧ k ≠ lb := fun k hk => ⟨fun e0 => by subst e0; exact own_ne hp.row.own hb9 (by decide) hk.symm, fun e0 => by subst e0; exact own_ne hp.row.own hl9 (by decide) hk.symm⟩
  have hm : ∀ r, r ≠ .all → r ≠ .eng → r ≠ .tasks → part ρ w g e V r → part ρ' w7 g e V r := fun r h1 h2 h3 hq => part_keep r hq (fun k hk hr => hp.chg.block k hk (fun h4 => by
    rcases h4 with h4 | h4
    · subst h4; exact h2 (hr.symm.trans he.1)
    · exact h3 (hr.symm.trans (hl.fp k h4)))) h_old
  have hal : RowAt (R ρ' .all) w7 29 2 V.va N (flat encTd tds) := ⟨own_same h.all.own fun k hk => hp.chg.block k (own_lt h.all.own k hk) (fun h4 => by
    have hr := h.all.fp k hk
    rcases h4 with h4 | h4
    · subst h4; exact absurd (hr.symm.trans he.1) (fun e => by cases e)
    · exact absurd (hr.symm.trans (hl.fp k h4)) (fun e => by cases e)), fun k hk => (h_old k (own_lt h.all.own k hk)).trans (h.all.fp k hk)⟩
  refine ⟨ρ', fun r hr => ?_, hal, fun k hk => ?_, fun k hk => ?_⟩
  · cases r with
    | no => trivial
    | all => exact absurd rfl hr
    | eng => exact ⟨(h_old _ (blk_lt he.2)).trans he.1, hp.blk⟩
    | tasks =>
      show RowAt _ w7 74 1 v6 (e.N + 1) (slRow (e.N + 1) fun i => ptrV (upf V.tp e.N b i))
      rw [← slRow_snoc]
      refine ⟨hp.row.own, fun k hk => ?_⟩
      have hu := hp.row.fp k hk
      show ρ' k = _
      rw [hρ']
      show (if k = b then _ else if k = lb then _ else _) = _
      rw [if_neg (hvb k hk).1, if_neg (hvb k hk).2]
      exact up_R (fun k hk => h.lt k (by have hk' : ρ k = _ := hk; rw [hk']; exact fun e => by cases e)) k hu
    | task j =>
      intro hj
      have hj' : j < e.N + 1 := hj
      by_cases hjn : j = e.N
      · subst hjn
        refine ⟨?_, ?_⟩
        · show ρ' (upf V.tp e.N b e.N) = _
          rw [upf_same, hρ']
          exact if_pos rfl
        · show w7.heap[upf V.tp e.N b e.N]? = some (.cells #[.int .i64 (e.mem e.N), .int .i64 (e.cost e.N), ptrV (upf V.lp e.N lb e.N), .int .i64 (e.waits e.N), .int .i64 (e.since e.N), V.cv e.N] 78 (0, 0))
          rw [upf_same, upf_same]
          exact hb9
      · have hq := hm (.task j) (by simp) (by simp) (by simp) (h.p (.task j) (by simp)) (show j < e.N by omega)
        have e1 : upf V.tp e.N b j = V.tp j := upf_far _ _ _ hjn
        have e2 : upf V.lp e.N lb j = V.lp j := upf_far _ _ _ hjn
        refine ⟨?_, ?_⟩
        · show ρ' (upf V.tp e.N b j) = _
          rw [e1]; exact hq.1
        · show w7.heap[upf V.tp e.N b j]? = some (.cells #[.int .i64 (e.mem j), .int .i64 (e.cost j), ptrV (upf V.lp e.N lb j), .int .i64 (e.waits j), .int .i64 (e.since j), V.cv j] 78 (0, 0))
          rw [e1, e2]; exact hq.2
    | life j =>
      intro hj
      have hj' : j < e.N + 1 := hj
      by_cases hjn : j = e.N
      · subst hjn
        refine ⟨?_, ?_⟩
        · show ρ' (upf V.lp e.N lb e.N) = _
          rw [upf_same, hρ']
          show (if lb = b then _ else if lb = lb then _ else _) = _
          rw [if_neg (fun e => hne e.symm), if_pos rfl]
        · show LifeAt w7 (upf V.lp e.N lb e.N) (e.life e.N)
          rw [upf_same]; exact hl9
      · have hq := hm (.life j) (by simp) (by simp) (by simp) (h.p (.life j) (by simp)) (show j < e.N by omega)
        have e2 : upf V.lp e.N lb j = V.lp j := upf_far _ _ _ hjn
        refine ⟨?_, ?_⟩
        · show ρ' (upf V.lp e.N lb j) = _
          rw [e2]; exact hq.1
        · show LifeAt w7 (upf V.lp e.N lb j) (e.life j)
          rw [e2]; exact hq.2
    | reqs => exact hm .reqs (by simp) (by simp) (by simp) (h.p .reqs (by simp))
    | req j => exact hm (.req j) (by simp) (by simp) (by simp) (h.p (.req j) (by simp))
    | gr => exact hm .gr (by simp) (by simp) (by simp) (h.p .gr (by simp))
    | tm => exact hm .tm (by simp) (by simp) (by simp) (h.p .tm (by simp))
    | led => exact hm .led (by simp) (by simp) (by simp) (h.p .led (by simp))
    | ad => exact hm .ad (by simp) (by simp) (by simp) (h.p .ad (by simp))
    | tu => exact hm .tu (by simp) (by simp) (by simp) (h.p .tu (by simp))
    | log => exact hm .log (by simp) (by simp) (by simp) (h.p .log (by simp))
  · rw [hρ'] at hk
    have hk' : (if k = b then Rl.task e.N else if k = lb then Rl.life e.N else ext ρ w w7 .tasks k) ≠ .no := hk
    by_cases h1 : k = b
    · omega
    · by_cases h2 : k = lb
      · omega
      · rw [if_neg h1, if_neg h2] at hk'
        by_cases h3 : w.heap.size ≤ k ∧ k < w7.heap.size
        · exact h3.2
        · have h4 : ρ k ≠ .no := by unfold ext at hk'; rwa [if_neg h3] at hk'
          exact Nat.lt_of_lt_of_le (h.lt k h4) hp.chg.size
  · by_cases hl3 : k < w.heap.size
    · exact .inl (h.sub k (by rw [← h_old k hl3]; exact hk))
    · refine .inr ⟨by omega, ?_⟩
      rw [hρ'] at hk
      have hk' : (if k = b then Rl.task e.N else if k = lb then Rl.life e.N else ext ρ w w7 .tasks k) ≠ .no := hk
      by_cases h1 : k = b
      · omega
      · by_cases h2 : k = lb
        · omega
        · rw [if_neg h1, if_neg h2] at hk'
          by_cases h3 : w.heap.size ≤ k ∧ k < w7.heap.size
          · exact h3.2
          · have h4 : ρ k ≠ .no := by unfold ext at hk'; rwa [if_neg h3] at hk'
            exact absurd (h.lt k h4) hl3
end Go.Proofs.YtbpoapfkeinjnaaGreatDoor.Ld
