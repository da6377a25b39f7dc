/- The engine of the yard and what it leans on, part 33. -/
import Derived.Test.YtbpoapfkeinjnaaGreatDoorK32
namespace Go.Proofs.YtbpoapfkeinjnaaGreatDoor.Ld
open Go.RowKit Go.Proofs.YtbpoapfkeinjnaaGreatDoorW.PrintWords Go.Proofs.YtbpoapfkeinjnaaGreatDoorW.PrintLast Go.Proofs.YtbpoapfkeinjnaaGreatDoorW.PrintMore
set_option linter.unusedVariables false
set_option linter.unusedSimpArgs false
structure PathR (N t : Nat) (xs : List Int) : Prop where
  ids : ∀ z, z ∈ xs → ∃ y : Nat, z = (y : Int) ∧ y < N
  end_ : xs = [] ∨ (t : Int) ∈ xs
  len : xs.length ≤ N
structure PathI (G : Gr) (t : Nat) (w wr : World) (v : Value) (b7 b9 bf cf : Nat) (far : List Int) (at_ : Nat) (xs : List Int) : Prop where
  row : NewRow w v xs wr
  env : PEnv wr b7 b9 bf cf G.N far at_
  lt : at_ < G.N
  pos : 0 ≤ far.getD at_ 0
  len : (xs.length : Int) + far.getD at_ 0 ≤ G.N
  ids : ∀ z, z ∈ xs → ∃ y : Nat, z = (y : Int) ∧ y < G.N
  last : (at_ : Int) ∈ xs
  far_ : ∀ k, v.ownBlock = some k → k ≠ b7 ∧ k ≠ b9 ∧ k ≠ bf
  ne : b9 ≠ b7 ∧ b9 ≠ bf
  fz : wr.frozen? ⟨b9, 0, none⟩ = false
  bd : b7 < wr.heap.size ∧ b9 < wr.heap.size ∧ bf < wr.heap.size ∧ w.heap.size ≤ b9
theorem PathI.next {G : Gr} {t : Nat} {w wr wB wa w6 : World} {v v6 : Value} {b7 b9 bf cf at_ y : Nat} {far xs : List Int} (h : PathI G t w wr v b7 b9 bf cf far at_ xs) (hB : Below wr.heap.size wr wB)
    (ha : Below wB.heap.size (wB.setCell ⟨b9, 0, none⟩ (.int .i64 (y : Int))) wa) (k : Grew wa w6 v v6 (xs.length + 1) (ints xs ++ [.int .i64 (y : Int)])) (hy : y < G.N) (hf : far.getD y 0 = far.getD at_ 0 - 1) (hp : 0 ≤ far.getD y 0) :
    PathI G t w (w6.alloc (.cells #[.int .i64 (y : Int)] 3)) v6 b7 w6.heap.size bf cf far y (xs ++ [(y : Int)]) := by
  obtain ⟨wS, hS⟩ : ∃ wS, wS = wB.setCell ⟨b9, 0, none⟩ (.int .i64 (y : Int)) := ⟨_, rfl⟩
  rw [← hS] at ha
  have hsz : wS.heap.size = wB.heap.size := by rw [hS]; simp [World.setCell]
  have z1 := hB.size
  have z2 := ha.size
  have z3 := k.by_.size
  have hbd := h.bd
  have hne := h.ne
  obtain ⟨w7, hw7⟩ : ∃ w7, w7 = w6.alloc (.cells #[.int .i64 (y : Int)] 3) := ⟨_, rfl⟩
  have hb7 : Below w6.heap.size w6 w7 := hw7 ▸ below_alloc (Below.refl _ w6) _
  have z4 := hb7.size
  have hx7 : w7.heap[w6.heap.size]? = some (.cells #[.int .i64 (y : Int)] 3 (0, 0)) := hw7 ▸ heap_alloc_new w6 _
  rw [← hw7]
  have hblk : ∀ j, j < wr.heap.size → j ≠ b9 → v.ownBlock ≠ some j → w7.heap[j]? = wr.heap[j]? := fun j hj h1 h2 => by
    rw [hb7.block j (by omega), k.by_.block j (by omega) (fun e => h2 e.symm), ha.block j (by omega), hS, Below.heap_setCell _ _ _ _ h1, hB.block j hj]
  have hcell : ∀ (a : Addr) (u : Value), a.block < wr.heap.size → a.block ≠ b9 → v.ownBlock ≠ some a.block → wr.cell? a = some u → w7.cell? a = some u := fun a u h1 h2 h3 h4 => (World.cell?_of_block (hblk a.block h1 h2 h3)).trans h4
  have hown : v6.ownBlock = v.ownBlock ∨ ∃ b, v6.ownBlock = some b ∧ wr.heap.size ≤ b := by
    rcases k.at_ with h | ⟨b, h, hb⟩
    · exact .inl h
    · exact .inr ⟨b, h, by omega⟩
  have hrow : NewRow w v6 (xs ++ [(y : Int)]) w7 := by
    refine ⟨⟨?_, fun j hj => ?_⟩, ?_⟩
    · rw [List.length_append, ← ints_snoc]
      exact own_same k.own fun j hj => hb7.block j (own_lt k.own j hj)
    · rcases hown with h1 | ⟨b, h1, hb⟩
      · exact h.row.1.fp j (h1 ▸ hj)
      · rw [h1] at hj
        have := Option.some.inj hj
        have := h.row.2.size
        show w.heap.size ≤ j
        omega
    · have c1 : Chg (fun j => j = b9 ∨ v.ownBlock = some j) wr w7 := by
        refine ⟨?_, ?_, ?_, by omega, fun j hj hn => hblk j hj (fun e => hn (.inl e)) (fun e => hn (.inr e))⟩
        · exact hb7.os.trans (k.by_.os.trans (ha.os.trans (by rw [hS]; exact hB.os)))
        · exact hb7.tape.trans (k.by_.tape.trans (ha.tape.trans (by rw [hS]; exact hB.tape)))
        · exact hb7.output.trans (k.by_.output.trans (ha.output.trans (by rw [hS]; exact hB.output)))
      exact Chg.to_below h.row.2 c1 fun j hj => by
        rcases hj with hj | hj
        · rw [hj]; exact hbd.2.2.2
        · exact h.row.1.fp j hj
  refine ⟨hrow, ⟨hcell _ _ hbd.1 (fun e => hne.1 e.symm) (fun e => (h.far_ b7 e).1 rfl) h.env.c7, (blk_cell hx7 0).trans rfl, fun i hi => hcell _ _ hbd.2.2.1 (fun e => hne.2 e.symm) (fun e => (h.far_ bf e).2.2 rfl) (h.env.far i hi)⟩, hy, hp, ?_, fun z hz => ?_, List.mem_append_right _ (List.mem_singleton.2 rfl), fun j hj => ?_, ⟨by omega, by omega⟩, blk_frozen hx7 0, ⟨by omega, ?_, by omega, by have := h.row.2.size; omega⟩⟩
  · rw [List.length_append, hf]
    have := h.len
    show ((xs.length + 1 : Nat) : Int) + _ ≤ _
    push_cast
    omega
  · rcases List.mem_append.1 hz with hz | hz
    · exact h.ids z hz
    · exact ⟨y, List.mem_singleton.1 hz, hy⟩
  · rcases hown with h1 | ⟨b, h1, hb⟩
    · have h2 := h.far_ j (h1 ▸ hj)
      have h3 := own_lt h.row.1.own j (h1 ▸ hj)
      exact ⟨h2.1, by omega, h2.2.2⟩
    · have hl := own_lt k.own j hj
      rw [h1] at hj
      have := Option.some.inj hj
      exact ⟨by omega, by omega, by omega⟩
  · exact blk_lt hx7
set_option maxHeartbeats 8000000 in
set_option maxRecDepth 100000 in
theorem path_calls (S : Nat → Prop) (g : Nat) (G : Gr) (f t : Nat) (w : World) (H : GrAt S w g G) (hv : GrInv G) (hf : f < G.N) (ht : t < G.N) (hN : G.N ≤ 12) :
    Calls Tryz.prog 149 #[.pointer (some ⟨g, 0, none⟩), .int .i64 (f : Int), .int .i64 (t : Int)] w fun en w' => ∃ v xs, en = .returned v ∧ Aside0 (NewRow w v xs w' ∧ PathR G.N t xs) := by
  have HH := Aside0.mk H
  have HV := Aside0.mk hv
  have HFT := Aside0.mk (And.intro hf ht)
  have q1 : (0 ≤ (f : Int)) = True := eq_true (by omega)
  have q2 : ((f : Int) < (G.N : Int)) = True := eq_true (by omega)
  clear H hv
  go_enter Tryz.func149, Tryz.ntmps149
  go_upto_region 3 with (first
    | (go_at_call 169; (with_reducible refine (there169 S g G f _ HH.out HFT.out.1 hN).mono ?_); rintro e w2 ⟨rfl, hd⟩; have HD2 := Aside0.mk hd; clear hd)
    | (go_at_call 169; (with_reducible refine (there169 S g G t _ (HH.out.keep (Keep.of_below HD2.out.below)) HFT.out.2 hN).mono ?_); rintro e w3 ⟨rfl, hd⟩; have HD3 := Aside0.mk (below_step HD2.out.below hd.below); clear hd))
  go_upto_region 4 with (go_at_call 170; go_loud (refine (dist_calls S g G t _ (HH.out.keep (Keep.of_below HD3.out)) HV.out HFT.out.2 hN).mono ?_); rintro e w4 ⟨bf, cf, far, rfl, hA⟩; have HA4 := Aside0.mk hA.out; clear hA)
  obtain ⟨w5, hw5⟩ : ∃ w5, w5 = w4.alloc (.cells #[.slice (some ⟨bf, 0, none⟩) G.N cf] 22) := ⟨_, rfl⟩
  rw [← hw5]
  have hb5 : Below w4.heap.size w4 w5 := hw5 ▸ below_alloc (Below.refl _ w4) _
  have HX5 := Aside0.mk (show w5.heap[w4.heap.size]? = some (.cells #[.slice (some ⟨bf, 0, none⟩) G.N cf] 22 (0, 0)) from hw5 ▸ heap_alloc_new w4 _)
  have HB5 := Aside0.mk (below_step (below_step HD3.out HA4.out.2.2) hb5)
  have HR5 := Aside0.mk (HA4.out.2.1.keep (Keep.of_below hb5))
  have HFA := Aside0.mk HA4.out.1
  have HLT := Aside0.mk (show bf < w4.heap.size ∧ w.heap.size ≤ w4.heap.size ∧ w.heap.size ≤ bf from ⟨own_lt HA4.out.2.1.own bf rfl, (below_step HD3.out HA4.out.2.2).size, Nat.le_trans HD3.out.size (HA4.out.2.1.fp bf rfl)⟩)
  obtain ⟨b7, hb7⟩ : ∃ b7, w4.heap.size = b7 := ⟨_, rfl⟩
  rw [hb7] at HX5 HLT ⊢
  have HL7 := Aside0.mk (show b7 < w5.heap.size from blk_lt HX5.out)
  clear hw5 hb5 hb7 HA4
  have c7 := (blk_cell HX5.out 0).trans (show _ = some (Value.slice (some ⟨bf, 0, none⟩) G.N cf) from rfl)
  have hbd : ∀ i, i < G.N → -1000 ≤ far.getD i 0 ∧ far.getD i 0 ≤ 1000 := fun i hi => by
    have h1 := HFA.out.bd i hi
    have h2 := HFA.out.lo i hi
    omega
  have HBD := Aside0.mk hbd
  have cf5 := (row_at HR5.out HFA.out.len f HFT.out.1).1
  have hbf := hbd f HFT.out.1
  obtain ⟨ff, hff⟩ : ∃ ff, far.getD f 0 = ff := ⟨_, rfl⟩
  rw [hff] at cf5 hbf
  have HFF := Aside0.mk hff
  clear hbd hff
  by_cases hneg : ff < 0
  · have d1 : (ff < 0) = True := eq_true hneg
    go_wp2
    go_ret
    exact ⟨_, [], rfl, ⟨⟨RowAt.nil _ _ _ _, HB5.out⟩, ⟨fun z hz => (by cases hz), .inl rfl, Nat.zero_le _⟩⟩⟩
  · have d1 : (ff < 0) = False := eq_false hneg
    go_upto_block 0 with (fail)
    have hlen1 := HFA.out.bd f HFT.out.1
    rw [HFF.out] at hlen1
    obtain ⟨w6, hw6⟩ : ∃ w6, w6 = w5.alloc (.cells #[.int .i64 (f : Int)] 3) := ⟨_, rfl⟩
    obtain ⟨w7, hw7⟩ : ∃ w7, w7 = w6.alloc (.cells #[.int .i64 (f : Int)] 3) := ⟨_, rfl⟩
    have hs6 : w6.heap.size = w5.heap.size + 1 := by rw [hw6]; exact size_alloc _ _
    have hs7 : w7.heap.size = w6.heap.size + 1 := by rw [hw7]; exact size_alloc _ _
    have hb6 : Below w5.heap.size w5 w6 := hw6 ▸ below_alloc (Below.refl _ w5) _
    have hb7 : Below w6.heap.size w6 w7 := hw7 ▸ below_alloc (Below.refl _ w6) _
    have hx6 : w7.heap[w5.heap.size]? = some (.cells #[.int .i64 (f : Int)] 3 (0, 0)) := blk_below (hw6 ▸ heap_alloc_new w5 _) hb7
    have hx7 : w7.heap[w6.heap.size]? = some (.cells #[.int .i64 (f : Int)] 3 (0, 0)) := hw7 ▸ heap_alloc_new w6 _
    rw [hs6] at hx7
    have HB7 := Aside0.mk (below_step hb6 hb7)
    have HI7 := Aside0.mk (show PathI G t w w7 (.slice (some ⟨w5.heap.size, 0, none⟩) 1 1) b7 (w5.heap.size + 1) bf cf far f [(f : Int)] from by
      have hl7 := HL7.out
      have hlt := HLT.out
      have hsz5 := HB5.out.size
      refine ⟨⟨⟨?_, fun k hk => ?_⟩, below_step HB5.out (below_step hb6 hb7)⟩, ⟨pw_cell_below (below_step hb6 hb7) c7, (blk_cell hx7 0).trans rfl, fun i hi => pw_cell_below (below_step hb6 hb7) (row_at HR5.out HFA.out.len i hi).1⟩, HFT.out.1, by rw [HFF.out]; omega, by rw [HFF.out]; show (1 : Int) + ff ≤ _; omega, fun z hz => ⟨f, List.mem_singleton.1 hz, HFT.out.1⟩, List.mem_singleton.2 rfl, fun k hk => ?_, ⟨by omega, by omega⟩, blk_frozen hx7 0, ⟨by omega, by omega, by omega, by omega⟩⟩
      · have h : (w5.alloc (.cells #[.int .i64 (f : Int)] 3)).ownsRow 0 3 1 (.slice (some ⟨w5.heap.size, 0, none⟩) 1 1) 1 (ints [(f : Int)]) := own_lit_of (enc := Value.int .i64) w5 0 3 [(f : Int)] (by simp) (by simp)
        rw [← hw6] at h
        exact own_same h fun k hk => hb7.block k (own_lt h k hk)
      · have : w5.heap.size = k := Option.some.inj hk
        omega
      · have : w5.heap.size = k := Option.some.inj hk
        omega)
    rw [← hw6, ← hw7]
    clear hlen1 hs6 hs7 hb6 hb7 hx6 hx7 hw6 hw7 c7 cf5
    go_wp2
    go_loopg [8, 9] (G.N + 2) (fun kq v8 v9 wr => ∃ at_ b9 : Nat, v9 = .pointer (some ⟨b9, 0, none⟩) ∧ Aside0 (∃ xs, PathI G t w wr v8 b7 b9 bf cf far at_ xs ∧ (far.getD at_ 0) + 1 ≤ (kq : Int)))
    case atStart => exact ⟨f, w5.heap.size + 1, rfl, ⟨_, HI7.out, by rw [HFF.out]; have := HBD.out f HFT.out.1; have := HFA.out.bd f HFT.out.1; rw [HFF.out] at this; push_cast; omega⟩⟩
    case round =>
      obtain ⟨at_, b9, rfl, hA⟩ := hrel
      obtain ⟨xs, hi, hk⟩ := hA.out
      have HI := Aside0.mk hi
      have HK := Aside0.mk hk
      clear hA hi hk HI7
      have c9 := HI.out.env.c9
      have hlt := HI.out.lt
      by_cases het : at_ = t
      · have d2 : ((at_ : Int) != (t : Int)) = false := by rw [het]; simp
        go_wp2
        go_ret
        exact ⟨_, xs, rfl, ⟨HI.out.row, ⟨HI.out.ids, .inr (het ▸ HI.out.last), by have := HI.out.len; have := HI.out.pos; omega⟩⟩⟩
      · have d2 : ((at_ : Int) != (t : Int)) = true := by rw [bne_iff_ne]; omega
        have HEX := Aside0.mk (show ∃ y : Nat, (y : Int) ∈ G.L false at_ ∧ isNext far at_ y = true from by
          rcases HFA.out.pos at_ HI.out.lt HI.out.pos with h | ⟨b, _, h2, h3, _⟩
          · exact absurd h het
          · exact ⟨b, h2, decide_eq_true h3⟩)
        have q3 : (0 ≤ (at_ : Int)) = True := eq_true (by omega)
        have q4 : ((at_ : Int) < (G.N : Int)) = True := eq_true (by omega)
        obtain ⟨out, hout⟩ : ∃ out, G.L false at_ = out := ⟨_, rfl⟩
        obtain ⟨m, hm⟩ : ∃ m, out.length = m := ⟨_, rfl⟩
        have hs2 := HV.out.short false at_ hlt
        rw [hout, hm] at hs2
        rw [hout] at HEX
        have HOUT := Aside0.mk hout
        have HM := Aside0.mk hm
        have HALL := Aside0.mk (show ∀ z, z ∈ out → ∃ y : Nat, z = (y : Int) ∧ y < G.N from fun z hz => HV.out.mem false at_ hlt z (by rw [hout]; exact hz))
        clear hout hm
        go_upto_region 10 with (go_at_call 31; go_loud (refine (Out_calls S g G at_ _ (HH.out.keep (Keep.of_below HI.out.row.2)) (by omega) hlt (by rw [HOUT.out, HM.out]; omega)).mono ?_); rintro en w8 ⟨A6, c6, rfl, h1, h2, h3⟩; rw [HOUT.out] at h1 h2; rw [HOUT.out, HM.out]; have HRI := Aside0.mk h1; have HB8 := Aside0.mk h3; have c9 := pw_cell_below h3 c9; clear h1 h2 h3)
        go_upto_region 11 with (go_at_call 100; go_loud (refine (pidx_calls out m c6 A6 _ b7 b9 bf cf G.N far at_ HRI.out HM.out (by omega) HALL.out (HI.out.env.below HB8.out) hlt hN HBD.out HEX.out).mono ?_); rintro en wB ⟨⟨j, y, rfl, hA⟩, hb⟩; obtain ⟨hj, hy, hyN, hnx⟩ := hA.out; obtain ⟨ad, rfl, hcell⟩ := RI.at_ (ReadsOf.below HRI.out hb) j (by rw [HM.out]; exact hj); rw [hy] at hcell; have c9 := pw_cell_below hb c9; have f9 := (World.frozen?_of_block (a := ⟨b9, 0, none⟩) ((below_step HB8.out hb).block b9 HI.out.bd.2.1)).trans HI.out.fz; have q5 : (0 ≤ (j : Int)) = True := eq_true (by omega); have q6 : ((j : Int) < (m : Int)) = True := eq_true (by omega); have HBB := Aside0.mk (below_step HB8.out hb); have HNX := Aside0.mk hnx; have HYN := Aside0.mk hyN; clear hb hA hj hy hnx hyN)
        obtain ⟨wS, hwS⟩ : ∃ wS, wS = wB.setCell ⟨b9, 0, none⟩ (.int .i64 (y : Int)) := ⟨_, rfl⟩
        rw [← hwS]
        have c9s : wS.cell? ⟨b9, 0, none⟩ = some (.int .i64 (y : Int)) := by rw [hwS]; exact World.cell?_setCell_same _ _ _ c9
        have HOS := Aside0.mk (show wS.ownsRow 0 3 1 u8 xs.length (ints xs) from by rw [hwS]; exact own_setCell (own_same HI.out.row.1.own fun k hk => HBB.out.block k (own_lt HI.out.row.1.own k hk)) (p := ⟨b9, 0, none⟩) (fun e => (HI.out.far_ b9 e.symm).2.1 rfl) _)
        have HWS := Aside0.mk hwS
        clear hwS c9 f9 hcell
        obtain ⟨wa, hwa⟩ : ∃ wa, wa = wS.alloc (.cells #[.int .i64 (y : Int)] 3) := ⟨_, rfl⟩
        have hba : Below wS.heap.size wS wa := hwa ▸ below_alloc (Below.refl _ wS) _
        have hxa : wa.heap[wS.heap.size]? = some (.cells #[.int .i64 (y : Int)] 3 (0, 0)) := hwa ▸ heap_alloc_new wS _
        have HOA := Aside0.mk (own_same HOS.out fun k hk => hba.block k (own_lt HOS.out k hk))
        have HXA := Aside0.mk hxa
        have HBA := Aside0.mk hba
        have HLN := Aside0.mk (show xs.length ≤ 1000 from by have := HI.out.len; have := HI.out.pos; omega)
        have c9a := pw_cell_below hba c9s
        have HWA := Aside0.mk hwa
        have HLA := Aside0.mk (show b9 < wa.heap.size from by have h1 := HI.out.bd.2.1; have h2 := HBB.out.size; have h3 := HBA.out.size; have h4 : wS.heap.size = wB.heap.size := (by rw [HWS.out]; simp [World.setCell]); omega)
        clear hba hxa hwa
        go_upto_region 12 with (at_builtin; rw [← HWA.out]; refine wp_app rfl (.tmp 44) (.tmp 46) rfl Tryz.underlying22 info3 u8 xs.length wS.heap.size (ints xs) (y : Int) rfl rfl HOA.out HXA.out (by have := HLN.out; omega) ?_; intro v6 w6 hK6; have HK6 := Aside0.mk hK6.out; have c96 := (World.cell?_of_block (a := ⟨b9, 0, none⟩) (hK6.out.by_.block b9 HLA.out (fun e => (HI.out.far_ b9 e.symm).2.1 rfl))).trans c9a; clear hK6)
        go_upto_block 1 with (fail)
        have hsB : wS.heap.size = wB.heap.size := by rw [HWS.out]; simp [World.setCell]
        have hfy : far.getD y 0 = far.getD at_ 0 - 1 := of_decide_eq_true HNX.out
        have hpy : 0 ≤ far.getD y 0 := by
          rcases HFA.out.pos at_ HI.out.lt HI.out.pos with h | ⟨b, h1, h2, h3, h4⟩
          · exact absurd h het
          · omega
        have HN := Aside0.mk (PathI.next HI.out HBB.out (by rw [← HWS.out, ← hsB]; exact HBA.out) HK6.out HYN.out hfy hpy)
        have hkk : far.getD at_ 0 = far.getD y 0 + 1 := by omega
        go_roundg (gk - 1)
        case measure => have := HK.out; omega
        case rel => exact ⟨y, _, rfl, ⟨_, HN.out, by have := HK.out; omega⟩⟩
set_option maxHeartbeats 8000000 in
set_option maxRecDepth 100000 in
theorem closes_calls (S : Nat → Prop) (g : Nat) (G : Gr) (a b : Nat) (w : World) (H : GrAt S w g G) (hv : GrInv G) (ha : a < G.N) (hb : b < G.N) (hN : G.N ≤ 12) :
    Calls Tryz.prog 113 #[.pointer (some ⟨g, 0, none⟩), .int .i64 (a : Int), .int .i64 (b : Int)] w fun en w' => ∃ v xs, en = .returned v ∧ Aside0 (NewRow w v xs w' ∧ PathR G.N a xs) := by
  have HH := Aside0.mk H
  have HV := Aside0.mk hv
  have HAB := Aside0.mk (And.intro ha hb)
  clear H hv
  go_enter Tryz.func113, Tryz.ntmps113
  go_wp2_with (go_at_call 149; (with_reducible refine (path_calls S g G b a _ HH.out HV.out HAB.out.2 HAB.out.1 hN).mono ?_); rintro e w2 ⟨v, xs, rfl, hd⟩; have HD2 := Aside0.mk hd.out; clear hd)
  go_ret
  exact ⟨_, xs, rfl, HD2⟩
end Go.Proofs.YtbpoapfkeinjnaaGreatDoor.Ld
namespace Go.Proofs.YtbpoapfkeinjnaaGreatDoor.Ld
open Go.RowKit Go.Proofs.YtbpoapfkeinjnaaGreatDoorW.PrintWords Go.Proofs.YtbpoapfkeinjnaaGreatDoorW.PrintLast Go.Proofs.YtbpoapfkeinjnaaGreatDoorW.PrintMore
set_option linter.unusedVariables false
set_option linter.unusedSimpArgs false
def turnE (e : Eng) (t : Nat) : Eng := { e with life := upf e.life t (turnSt (e.life t)), waits := upf e.waits t (-1) }
def turnAll (e : Eng) (xs : List Int) : Eng := xs.foldl (fun e z => turnE e z.toNat) e
theorem turnAll_snoc (e : Eng) (xs : List Int) (z : Int) : turnAll e (xs ++ [z]) = turnE (turnAll e xs) z.toNat := by unfold turnAll; rw [List.foldl_append]; rfl
theorem turnAll_N (xs : List Int) : ∀ e : Eng, (turnAll e xs).N = e.N := by
  induction xs with
  | nil => exact fun e => rfl
  | cons z xs ih => exact fun e => ih (turnE e z.toNat)
theorem turnE_inv {e : Eng} (h : EngInv e) {t : Nat} (ht : t < e.N) : EngInv (turnE e t) := (h.setWaits (upf e.waits t (-1))).setLife t _ (h.life t ht).turn
theorem turnAll_inv (xs : List Int) : ∀ e : Eng, EngInv e → Sync e → (∀ z, z ∈ xs → ∃ y : Nat, z = (y : Int) ∧ y < e.N) → EngInv (turnAll e xs) ∧ Sync (turnAll e xs) := by
  induction xs with
  | nil => exact fun e h hs _ => ⟨h, hs⟩
  | cons z xs ih =>
    intro e h hs hz
    obtain ⟨y, rfl, hy⟩ := hz z List.mem_cons_self
    exact ih (turnE e y) (turnE_inv h hy) hs fun x hx => hz x (List.mem_cons_of_mem _ hx)
inductive Settles : Eng → List Int → Eng → Prop
  | nil (e : Eng) : Settles e [] e
  | snoc {e e1 e2 e3 : Eng} {xs : List Int} (z : Int) (h : Settles e xs e1) (hf : Fols e1 e2) (ho : Over e2 e3) : Settles e (xs ++ [z]) e3
theorem Settles.inv {e e' : Eng} {xs : List Int} (h : Settles e xs e') : EngInv e → Sync e → EngInv e' ∧ Sync e' ∧ e'.N = e.N := by
  induction h with
  | nil => exact fun hi hs => ⟨hi, hs, rfl⟩
  | snoc z h hf ho ih =>
    intro hi hs
    obtain ⟨i1, i2, i3⟩ := ih hi hs
    obtain ⟨j1, j2, j3, _⟩ := hf.inv i1 i2
    exact ⟨(ho.inv j1 j2).1, (ho.inv j1 j2).2, by rw [ho.same.1, j3, i3]⟩
theorem take_snoc (xs : List Int) (i : Nat) (hi : i < xs.length) : xs.take (i + 1) = xs.take i ++ [xs.getD i 0] := by
  rw [List.take_add_one, List.getD_eq_getElem?_getD, List.getElem?_eq_getElem hi]
  rfl
theorem EngAt.fcirc {S : Nat → Prop} {w : World} {g : Nat} {K : EK} {e : Eng} (h : EngAt S w g K e) (i : Nat) (hi : i < e.N) : ∃ v, w.cell? ⟨K.tp i, 5, none⟩ = some v := by
  obtain ⟨ρ, vr, vl, cv, h⟩ := h
  exact ⟨_, (blk_cell (h.p (.task i) hi).2 5).trans rfl⟩
def OwnL (S1 : Nat → Prop) (w1 : World) (A : Option Addr) (xs : List Int) : Prop := RI w1 A xs ∧ ∀ a, A = some a → 0 < xs.length → ¬ S1 a.block ∧ a.block < w1.heap.size
theorem OwnL.step {S S1 : Nat → Prop} {w w1 w2 : World} {g : Nat} {K K' : EK} {e e2 : Eng} {A : Option Addr} {xs : List Int} (h : OwnL S1 w1 A xs) (hl : Loc S w g K e S1 w1) (t : To S1 w1 g K' e2 w2) : OwnL (fun j => up S1 w1 w2 j ∧ j < w2.heap.size) w2 A xs :=
  ⟨RI.off h.1 fun a ha hn => (hl.own t (h.2 a ha hn).2 (h.2 a ha hn).1).2, fun a ha hn => ⟨(hl.own t (h.2 a ha hn).2 (h.2 a ha hn).1).1, Nat.lt_of_lt_of_le (h.2 a ha hn).2 t.2.size⟩⟩
theorem OwnL.below {S1 : Nat → Prop} {w1 w2 : World} {A : Option Addr} {xs : List Int} (h : OwnL S1 w1 A xs) (hb : Below w1.heap.size w1 w2) : OwnL S1 w2 A xs := ⟨ReadsOf.below h.1 hb, fun a ha hn => ⟨(h.2 a ha hn).1, Nat.lt_of_lt_of_le (h.2 a ha hn).2 hb.size⟩⟩
set_option maxHeartbeats 8000000 in
set_option maxRecDepth 100000 in
theorem round_calls (S : Nat → Prop) (bm g : Nat) (K : EK) (e : Eng) (A : Option Addr) (n c : Nat) (xs : List Int) (w : World) (H : EngAt S w g K e) (hi : EngInv e) (hs : Sync e) (hg : Glb bm S w) (hn : xs.length = n) (ho : OwnL S w A xs) (hid : ∀ z, z ∈ xs → ∃ y : Nat, z = (y : Int) ∧ y < e.N) (h12 : n ≤ 12) :
    Calls Tryz.prog 115 #[.pointer (some ⟨g, 0, none⟩), .slice A n c] w fun en w' => en = .returned (.tuple #[]) ∧ ∃ e', Settles (turnAll e xs) xs e' ∧ To S w g K e' w' := by
  have HI := Aside0.mk hi
  have HS := Aside0.mk hs
  have HG := Aside0.mk hg
  have HID := Aside0.mk hid
  have HN := Aside0.mk hn
  have HL0 := Aside0.mk (Loc.start H)
  have HO0 := Aside0.mk (show OwnL (fun k => S k ∧ k < w.heap.size) w A xs from ⟨ho.1, fun a ha h0 => ⟨fun h => (ho.2 a ha h0).1 h.1, (ho.2 a ha h0).2⟩⟩)
  clear H hi hs hg hn ho hid
  go_enter Tryz.func115, Tryz.ntmps115
  go_wp2
  go_loopg [11] (n + 1) (fun kq v11 wr => ∃ i : Nat, v11 = .int .i64 (i : Int) ∧ Aside0 (kq + i = n + 1 ∧ i ≤ n ∧ ∃ S1, Loc S w g K (turnAll e (xs.take i)) S1 wr ∧ OwnL S1 wr A xs))
  case atStart => exact ⟨0, rfl, ⟨by omega, by omega, _, HL0.out, HO0.out⟩⟩
  case round =>
    obtain ⟨i, rfl, hA⟩ := hrel
    obtain ⟨hki, him, S1, hl1, ho1⟩ := hA.out
    have HL1 := Aside0.mk hl1
    have HO1 := Aside0.mk ho1
    have HKI := Aside0.mk hki
    clear hA hl1 ho1 hki
    by_cases hlt : i < n
    · obtain ⟨y, hy, hyN⟩ : ∃ y : Nat, xs.getD i 0 = (y : Int) ∧ y < e.N := HID.out _ (by rw [List.getD_eq_getElem?_getD, List.getElem?_eq_getElem (by rw [HN.out]; exact hlt)]; exact List.getElem_mem _)
      have HY := Aside0.mk hy
      obtain ⟨ad, rfl, hcell⟩ := RI.at_ HO1.out.1 i (by rw [HN.out]; exact hlt)
      rw [hy] at hcell
      obtain ⟨E, hE⟩ : ∃ E, turnAll e (xs.take i) = E := ⟨_, rfl⟩
      rw [hE] at HL1
      have hEN : E.N = e.N := by rw [← hE]; exact turnAll_N _ _
      have HIE := Aside0.mk (show EngInv E from hE ▸ (turnAll_inv _ e HI.out HS.out fun z hz => HID.out z (List.mem_of_mem_take hz)).1)
      have HE := Aside0.mk hE
      have hyE : y < E.N := by omega
      have c11 := HL1.out.at_.ftasks
      obtain ⟨ct, _, cl, _, _, _⟩ := HL1.out.at_.ftask y hyE
      have HLU := Aside0.mk (HL1.out.at_.flife y hyE)
      have HST := Aside0.mk (HIE.out.life y hyE).st
      have q1 : (0 ≤ (y : Int)) = True := eq_true (by omega)
      have q2 : ((y : Int) < (E.N : Int)) = True := eq_true (by omega)
      have q5 : (0 ≤ (i : Int)) = True := eq_true (by omega)
      have q6 : ((i : Int) < (n : Int)) = True := eq_true (by omega)
      clear hy hE
      go_upto_region 5 with (go_at_call 119; (with_reducible refine (Turn_calls (K.lp y) (E.life y) HST.out _ HLU.out.1).mono ?_); rintro en w2 ⟨⟨er, rfl⟩, h2, k2⟩; have HL2 := Aside0.mk (HL1.out.step (HLU.out.2 _ _ h2 k2)); have HO2 := Aside0.mk (HO1.out.step HL1.out (HLU.out.2 _ _ h2 k2)); clear h2 k2)
      clear c11 ct cl hcell
      obtain ⟨_, _, cl2, cw2, _, f2⟩ := HL2.out.at_.ftask y hyE
      go_upto_region 6 with (go_at_call 68; go_loud (refine (Clone_calls _ n c xs _ HO2.out.1 HN.out (by omega)).mono ?_); rintro en w3 ⟨A6, c6, rfl, h1, h2, h3⟩; have HL3 := Aside0.mk (HL2.out.below h3); have HO3 := Aside0.mk (HO2.out.below h3); obtain ⟨_, _, cl3, cw3, _, f3⟩ := (HL2.out.below h3).at_.ftask y hyE; have f33 := f3 3; obtain ⟨cvv, cc3⟩ := (HL2.out.below h3).at_.fcirc y hyE; have f35 := f3 5; clear h1 h2 h3 f3)
      obtain ⟨w4, hw4⟩ : ∃ w4, w4 = (w3.setCell ⟨K.tp y, 3, none⟩ (.int .i64 (-1))).setCell ⟨K.tp y, 5, none⟩ (.slice A6 n c6) := ⟨_, rfl⟩
      rw [← hw4]
      have HT4 := Aside0.mk (show To _ w3 g K (turnE E y) w4 from by
        rw [hw4]
        have h1 := (HL3.out.at_.stask y hyE (-1)).1
        exact h1.trans ((h1.1.stask y hyE (-1)).2.2 (.slice A6 n c6)))
      have HL4 := Aside0.mk (HL3.out.step HT4.out)
      have HO4 := Aside0.mk (HO3.out.step HL3.out HT4.out)
      have HE4 := Aside0.mk (show turnAll e (xs.take (i + 1)) = turnE E y from by rw [take_snoc _ _ (by rw [HN.out]; exact hlt), turnAll_snoc, HE.out, HY.out, Int.toNat_natCast])
      clear cl2 cw2 f2 cl3 cw3 f33 f35 cc3 hw4
      go_wp2
      go_roundg (gk - 1)
      case measure => have := HKI.out; omega
      case rel => exact ⟨i + 1, by rw [show ((i : Int) + 1) = ((i + 1 : Nat) : Int) by omega], ⟨by have := HKI.out; omega, by omega, _, by rw [HE4.out]; exact HL4.out, HO4.out⟩⟩
    · obtain rfl : n = i := by omega
      have hxs : xs.take n = xs := List.take_of_length_le (by rw [HN.out]; exact Nat.le_refl _)
      rw [hxs] at HL1
      have hEN : (turnAll e xs).N = e.N := turnAll_N _ _
      obtain ⟨E, hE⟩ : ∃ E, turnAll e xs = E := ⟨_, rfl⟩
      rw [hE] at HL1 hEN
      have HIE := Aside0.mk (show EngInv E ∧ Sync E from hE ▸ turnAll_inv _ e HI.out HS.out HID.out)
      have HE := Aside0.mk hE
      have q2 : ((n : Int) < (n : Int)) = False := eq_false (by omega)
      clear hxs hE hlt
      go_wp2
      obtain ⟨wo, rfl⟩ : ∃ wo : World, wo = wr := ⟨_, rfl⟩
      obtain ⟨ko, rfl⟩ : ∃ ko : Nat, ko = gk := ⟨_, rfl⟩
      go_loopg [38] (n + 1) (fun kq v38 wx => ∃ i : Nat, v38 = .int .i64 (i : Int) ∧ Aside0 (kq + i = n + 1 ∧ i ≤ n ∧ ∃ e2 S2, Settles E (xs.take i) e2 ∧ Loc S w g K e2 S2 wx ∧ OwnL S2 wx A xs))
      case atStart => exact ⟨0, rfl, ⟨by omega, by omega, E, _, Settles.nil E, HL1.out, HO1.out⟩⟩
      case round =>
        obtain ⟨i, rfl, hA⟩ := hrel
        obtain ⟨hki2, him2, e2, S2, hse, hl2, ho2⟩ := hA.out
        have HSE := Aside0.mk hse
        have HL2 := Aside0.mk hl2
        have HO2 := Aside0.mk ho2
        have HKJ := Aside0.mk hki2
        have HI2 := Aside0.mk (hse.inv HIE.out.1 HIE.out.2)
        have hN2 : e2.N = e.N := by rw [HI2.out.2.2]; exact hEN
        clear hA hse hl2 ho2 hki2 q2
        by_cases hlt : i < n
        · obtain ⟨y, hy, hyN⟩ : ∃ y : Nat, xs.getD i 0 = (y : Int) ∧ y < e.N := HID.out _ (by rw [List.getD_eq_getElem?_getD, List.getElem?_eq_getElem (by rw [HN.out]; exact hlt)]; exact List.getElem_mem _)
          have HY := Aside0.mk hy
          obtain ⟨ad, rfl, hcell⟩ := RI.at_ HO2.out.1 i (by rw [HN.out]; exact hlt)
          rw [hy] at hcell
          have q5 : (0 ≤ (i : Int)) = True := eq_true (by omega)
          have q6 : ((i : Int) < (n : Int)) = True := eq_true (by omega)
          have HGL := Aside0.mk (show Glb bm S2 wr from (HG.out.to HL2.out.chg).mono fun k hk => by
            rcases HL2.out.sub k hk with h | h
            · exact .inl h
            · exact .inr ⟨h, HL2.out.lt k hk⟩)
          have hyN2 : y < e2.N := by omega
          clear hy
          go_wp2_with (go_at_call 63; go_loud (refine (settle_calls S2 bm g K e2 y _ HL2.out.at_ HI2.out.1 HI2.out.2.1 HGL.out hyN2).mono ?_); rintro en w5 ⟨rfl, e3, e4, hf, hov, hto⟩; have HF := Aside0.mk (And.intro hf hov); have HL5 := Aside0.mk (HL2.out.step hto); have HO5 := Aside0.mk (HO2.out.step HL2.out hto); clear hf hov hto)
          have HS5 := Aside0.mk (show Settles E (xs.take (i + 1)) e4 from by rw [take_snoc _ _ (by rw [HN.out]; exact hlt)]; exact HSE.out.snoc _ HF.out.1 HF.out.2)
          go_roundg (gk - 1)
          case measure => have := HKJ.out; omega
          case rel => exact ⟨i + 1, by rw [show ((i : Int) + 1) = ((i + 1 : Nat) : Int) by omega], ⟨by have := HKJ.out; omega, by omega, e4, _, HS5.out, HL5.out, HO5.out⟩⟩
        · obtain rfl : n = i := by omega
          have q2 : ((n : Int) < (n : Int)) = False := eq_false (by omega)
          clear hlt
          go_wp2
          go_end0
          have hxs : xs.take n = xs := List.take_of_length_le (by rw [HN.out]; exact Nat.le_refl _)
          exact ⟨rfl, e2, by rw [HE.out]; have h := HSE.out; rw [hxs] at h; exact h, HL2.out.done⟩
end Go.Proofs.YtbpoapfkeinjnaaGreatDoor.Ld
