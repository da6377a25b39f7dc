/- The engine of the yard and what it leans on, part 17. -/
import Derived.Test.YtbpoapfkeinjnaaGreatDoorK16
namespace Go.Proofs.YtbpoapfkeinjnaaGreatDoor.Ld
open Go.RowKit Go.Proofs.YtbpoapfkeinjnaaGreatDoorW.PrintWords Go.Proofs.YtbpoapfkeinjnaaGreatDoorW.PrintLast Go.Proofs.YtbpoapfkeinjnaaGreatDoorW.PrintMore
set_option linter.unusedVariables false
set_option linter.unusedSimpArgs false
theorem pigeon : ∀ (N : Nat) (l : List Int), l.Nodup → (∀ x, x ∈ l → ∃ y : Nat, x = (y : Int) ∧ y < N) → l.length ≤ N
  | 0, l, _, h => by
    cases l with
    | nil => exact Nat.le_refl _
    | cons x l => obtain ⟨y, _, hy⟩ := h x List.mem_cons_self; omega
  | N + 1, l, hn, h => by
    have ih := pigeon N (l.erase (N : Int)) (hn.erase _) fun x hx => by
      obtain ⟨h1, h2⟩ := hn.mem_erase_iff.1 hx
      obtain ⟨y, hy, hy2⟩ := h x h2
      exact ⟨y, hy, by omega⟩
    by_cases hm : (N : Int) ∈ l
    · have := List.length_erase_of_mem hm
      omega
    · rw [List.erase_of_not_mem hm] at ih
      omega
theorem GrInv.short {G : Gr} (h : GrInv G) (b : Bool) (j : Nat) (hj : j < G.N) : (G.L b j).length ≤ G.N := pigeon _ _ (h.dup b j hj) (h.mem b j hj)
structure Loc (S : Nat → Prop) (w : World) (g : Nat) (K : EK) (e : Eng) (S1 : Nat → Prop) (w1 : World) : Prop where
  at_ : EngAt S1 w1 g K e
  lt : ∀ k, S1 k → k < w1.heap.size
  sub : ∀ k, S1 k → S k ∨ w.heap.size ≤ k
  chg : Chg S w w1
section
variable {S S1 T : Nat → Prop} {w w1 w2 : World} {g : Nat} {K K' : EK} {e e2 : Eng}
theorem Loc.start (h : EngAt S w g K e) : Loc S w g K e (fun k => S k ∧ k < w.heap.size) w := ⟨h.mono fun k hk hs => ⟨hs, hk⟩, fun k hk => hk.2, fun k hk => .inl hk.1, Chg.refl S w⟩
theorem Loc.below (h : Loc S w g K e S1 w1) (k : Below w1.heap.size w1 w2) : Loc S w g K e S1 w2 := ⟨h.at_.keep k, fun j hj => Nat.lt_of_lt_of_le (h.lt j hj) k.size, h.sub, h.chg.then_below k⟩
theorem Loc.step (h : Loc S w g K e S1 w1) (k : To S1 w1 g K' e2 w2) : Loc S w g K' e2 (fun j => up S1 w1 w2 j ∧ j < w2.heap.size) w2 :=
  ⟨k.1.mono fun j hj hs => ⟨hs, hj⟩, fun j hj => hj.2, fun j hj => by
    rcases hj.1 with hj1 | hj1
    · exact h.sub j hj1
    · exact .inr (by have := h.chg.size; omega), h.chg.then_own k.2 h.sub⟩
theorem Loc.off (h : Loc S w g K e S1 w1) (k : Chg T w1 w2) (hd : ∀ j, S1 j → ¬ T j) (hT : ∀ j, T j → w.heap.size ≤ j) : Loc S w g K e S1 w2 :=
  ⟨h.at_.off k hd, fun j hj => Nat.lt_of_lt_of_le (h.lt j hj) k.size, h.sub, h.chg.then_own k fun j hj => .inr (hT j hj)⟩
theorem Loc.done (h : Loc S w g K e S1 w1) : To S w g K e w1 :=
  ⟨h.at_.mono fun k hk hs => by
    rcases h.sub k hs with h1 | h1
    · exact .inl h1
    · exact .inr ⟨h1, hk⟩, h.chg⟩
theorem Loc.own (h : Loc S w g K e S1 w1) (k : To S1 w1 g K' e2 w2) {b : Nat} (hb : b < w1.heap.size) (hn : ¬ S1 b) : ¬ (up S1 w1 w2 b ∧ b < w2.heap.size) ∧ w2.heap[b]? = w1.heap[b]? :=
  ⟨fun e => by rcases e.1 with e1 | e1; exact hn e1; omega, k.2.block b hb hn⟩
end
theorem RI.off {w w' : World} {A : Option Addr} {xs : List Int} (h : RI w A xs) (hb : ∀ a, A = some a → 0 < xs.length → w'.heap[a.block]? = w.heap[a.block]?) : RI w' A xs :=
  ⟨h.1, h.2.1, fun hn => by
    obtain ⟨ad, e, hc⟩ := h.2.2 hn
    exact ⟨ad, e, fun j hj => cell_keep (hc j hj) (by rw [add_block]; exact hb ad e hn)⟩⟩
end Go.Proofs.YtbpoapfkeinjnaaGreatDoor.Ld
namespace Go.Proofs.YtbpoapfkeinjnaaGreatDoor.Ld
open Go.RowKit Go.Proofs.YtbpoapfkeinjnaaGreatDoorW.PrintWords Go.Proofs.YtbpoapfkeinjnaaGreatDoorW.PrintLast Go.Proofs.YtbpoapfkeinjnaaGreatDoorW.PrintMore
set_option linter.unusedVariables false
set_option linter.unusedSimpArgs false
attribute [local go_sem] max2_int min2_int max_two min_two
def FolStep (e e' : Eng) : Prop := ∃ u t, u < e.N ∧ t < e.N ∧ e.waits u = (t : Int) ∧ (e.life u).state = 3 ∧ e' = followSt e u (e.life t).state
inductive Fols : Eng → Eng → Prop
  | refl (e : Eng) : Fols e e
  | step {e e1 e2 : Eng} (h : Fols e e1) (k : FolStep e1 e2) : Fols e e2
theorem Fols.inv {e e' : Eng} (h : Fols e e') (hi : EngInv e) (hs : Sync e) : EngInv e' ∧ Sync e' ∧ e'.N = e.N ∧ e'.gr = e.gr := by
  induction h with
  | refl => exact ⟨hi, hs, rfl, rfl⟩
  | step h k ih =>
    obtain ⟨i1, i2, i3, i4⟩ := ih
    obtain ⟨u, t, hu, ht, _, _, rfl⟩ := k
    exact ⟨followSt_inv i1 hu _, followSt_sync i2 _ _, i3, i4⟩
def wN (e : Eng) : Nat := sumTo (fun i => if (e.life i).state = 3 then 1 else 0) e.N
theorem followL_ne {l : LifeS} (h : l.state = 3) (st : Int) : (followL l st).state ≠ 3 := by
  unfold followL
  split
  · unfold stepSt; rw [if_pos h]; show (1 : Int) ≠ 3; omega
  · split
    · unfold fallSt; rw [if_pos (.inl h)]; show (6 : Int) ≠ 3; omega
    · unfold turnSt; rw [if_pos (by omega)]; show (7 : Int) ≠ 3; omega
theorem wN_follow {e : Eng} {u : Nat} (hu : u < e.N) (h : (e.life u).state = 3) (st : Int) : wN e = wN (followSt e u st) + 1 := by
  unfold wN
  refine sumTo_one (k := u) hu ?_ fun i hi hne => ?_
  · show (if (e.life u).state = 3 then 1 else 0) = (if (upf e.life u (followL (e.life u) st) u).state = 3 then 1 else 0) + 1
    rw [upf_same, if_pos h, if_neg (followL_ne h st)]
  · show (if (upf e.life u (followL (e.life u) st) i).state = 3 then 1 else 0) = _
    rw [upf_far _ _ _ hne]
theorem wN_le {e : Eng} (h : EngInv e) : wN e ≤ 12 := by
  have := sumTo_bd (f := fun i => if (e.life i).state = 3 then 1 else 0) (n := e.N) (B := 1) (fun i _ => by split <;> omega)
  have := h.N.2
  unfold wN
  omega
def SettlePost (S : Nat → Prop) (g : Nat) (K : EK) (e : Eng) (w : World) (en : Ending) (w' : World) : Prop := en = .returned (.tuple #[]) ∧ ∃ e1 e', Fols e e1 ∧ Over e1 e' ∧ To S w g K e' w'
structure SRel (S : Nat → Prop) (w : World) (g : Nat) (K : EK) (e : Eng) (b off n cap : Nat) (xs : List Int) (e1 : Eng) (S1 : Nat → Prop) (wr : World) : Prop where
  q : QAt w.heap.size wr b off n cap xs
  ids : ∀ x, x ∈ xs → ∃ y : Nat, x = (y : Int) ∧ y < e.N
  fols : Fols e e1
  loc : Loc S w g K e1 S1 wr
  nb : ¬ S1 b
theorem SRel.below {S : Nat → Prop} {w : World} {g : Nat} {K : EK} {e : Eng} {b off n cap : Nat} {xs : List Int} {e1 : Eng} {S1 : Nat → Prop} {wr w2 : World} (h : SRel S w g K e b off n cap xs e1 S1 wr) (hb : Below wr.heap.size wr w2) : SRel S w g K e b off n cap xs e1 S1 w2 :=
  ⟨h.q.below hb, h.ids, h.fols, h.loc.below hb, h.nb⟩
theorem SRel.follow {S : Nat → Prop} {w : World} {g : Nat} {K : EK} {e : Eng} {b off n cap : Nat} {xs : List Int} {e1 e2 : Eng} {S1 : Nat → Prop} {wr w2 : World} (h : SRel S w g K e b off n cap xs e1 S1 wr) (hk : FolStep e1 e2) (ht : To S1 wr g K e2 w2) :
    SRel S w g K e b off n cap xs e2 (fun j => up S1 wr w2 j ∧ j < w2.heap.size) w2 :=
  ⟨h.q.same (h.loc.own ht h.q.lt h.nb).2, h.ids, h.fols.step hk, h.loc.step ht, (h.loc.own ht h.q.lt h.nb).1⟩
theorem SRel.push {S : Nat → Prop} {w : World} {g : Nat} {K : EK} {e : Eng} {b off n cap b' off' cap' : Nat} {xs : List Int} {e1 : Eng} {S1 : Nat → Prop} {wr w2 : World} {u : Nat} (h : SRel S w g K e b off n cap xs e1 S1 wr) (hu : u < e.N) (hq : QAt w.heap.size w2 b' off' (n + 1) cap' (xs ++ [(u : Int)])) (hc : Chg (fun k => k = b) wr w2) (hb : b' = b ∨ wr.heap.size ≤ b') :
    SRel S w g K e b' off' (n + 1) cap' (xs ++ [(u : Int)]) e1 S1 w2 :=
  ⟨hq, fun x hx => by
    rcases List.mem_append.1 hx with hx | hx
    · exact h.ids x hx
    · rw [List.mem_singleton] at hx; exact ⟨u, hx, hu⟩, h.fols, h.loc.off hc (fun j h1 h2 => h.nb (h2 ▸ h1)) (fun j hj => hj ▸ h.q.lo), by
    rcases hb with rfl | hb
    · exact h.nb
    · exact fun hs => by have := h.loc.lt _ hs; omega⟩
set_option maxHeartbeats 8000000 in
set_option maxRecDepth 100000 in
theorem settle_calls (S : Nat → Prop) (bm g : Nat) (K : EK) (e : Eng) (t : Nat) (w : World) (H : EngAt S w g K e) (hi : EngInv e) (hs : Sync e) (hg : Glb bm S w) (ht : t < e.N) :
    Calls Tryz.prog 63 #[.pointer (some ⟨g, 0, none⟩), .int .i64 (t : Int)] w (SettlePost S g K e w) := by
  have HI := Aside0.mk hi
  have HS := Aside0.mk hs
  have HG := Aside0.mk hg
  have hw12 := wN_le hi
  obtain ⟨W0, hW0⟩ : ∃ W0, wN e = W0 := ⟨_, rfl⟩
  rw [hW0] at hw12
  have HW0 := Aside0.mk hW0
  have HR0 := Aside0.mk (show SRel S w g K e w.heap.size 0 1 1 [(t : Int)] e (fun k => S k ∧ k < w.heap.size) (w.alloc (.cells #[.int .i64 (t : Int)] 3)) from
    ⟨QAt.new w _ _ (Nat.le_refl _), fun x hx => by rw [List.mem_singleton] at hx; exact ⟨t, hx, ht⟩, .refl e, (Loc.start H).below (below_alloc (Below.refl _ _) _), fun h => by omega⟩)
  clear H hi hs hg hW0
  go_enter Tryz.func63, Tryz.ntmps63
  go_wp2
  go_loopg [4] (W0 + 2) (fun kq v4 wr => ∃ b off n cap : Nat, v4 = .slice (some ⟨b, off, none⟩) n cap ∧ Aside0 (∃ xs e1 S1, SRel S w g K e b off n cap xs e1 S1 wr ∧ n + wN e1 + 1 ≤ kq ∧ n + wN e1 ≤ 13))
  case atStart => exact ⟨_, _, _, _, rfl, ⟨_, _, _, HR0.out, by rw [HW0.out]; omega, by rw [HW0.out]; omega⟩⟩
  case round =>
    obtain ⟨b, off, n, cap, rfl, hA⟩ := hrel
    obtain ⟨xs, e1, S1, hr, hk, hk13⟩ := hA.out
    have HR := Aside0.mk hr
    have HK := Aside0.mk hk
    have HK13 := Aside0.mk hk13
    have hle := hr.q.le
    clear hA hr hk hk13
    rcases n with _ | n
    · go_wp2_with (go_at_call 43; go_loud (refine (over_calls _ bm g K e1 _ HR.out.loc.done.1 (HR.out.fols.inv HI.out HS.out).1 (HR.out.fols.inv HI.out HS.out).2.1 (HG.out.to HR.out.loc.done.2)).mono ?_); rintro en w2 ⟨rfl, e', ho, h2⟩; have HO := Aside0.mk ho; have H2 := Aside0.mk h2; clear ho h2)
      go_end0
      exact ⟨rfl, e1, e', HR.out.fols, HO.out, HR.out.loc.done.trans H2.out⟩
    · have hx0 : ∃ (y : Nat) (rest : List Int), xs = (y : Int) :: rest := by
        have hl := HR.out.q.len
        cases xs with
        | nil => simp at hl
        | cons x xs =>
          obtain ⟨y, hy, _⟩ := HR.out.ids x List.mem_cons_self
          exact ⟨y, xs, by rw [hy]⟩
      obtain ⟨y, rest, rfl⟩ := hx0
      have hy : y < e.N := by obtain ⟨y', h1, h2⟩ := HR.out.ids _ List.mem_cons_self; omega
      obtain ⟨hi1, hs1, hN1, hg1⟩ := HR.out.fols.inv HI.out HS.out
      have HI1 := Aside0.mk hi1
      have hN12 := hi1.N.2
      have hy1 : y < e1.N := by omega
      obtain ⟨c13, S2, hgr, _, _⟩ := HR.out.loc.at_.gr
      have HGR := Aside0.mk hgr
      have hc0 := HR.out.q.cell 0 (by omega)
      have hc0 : wr.cell? ⟨b, off, none⟩ = some (.int .i64 (y : Int)) := hc0
      have HNEQ := Aside0.mk (And.intro hN1 hg1)
      have hshort := (hi1.gr.short true y (by rw [hi1.gN]; exact hy1))
      rw [hi1.gN] at hshort
      obtain ⟨ins, hins⟩ : ∃ ins, e1.gr.L true y = ins := ⟨_, rfl⟩
      obtain ⟨m, hm⟩ : ∃ m, ins.length = m := ⟨_, rfl⟩
      rw [hins, hm] at hshort
      have HINS := Aside0.mk hins
      have HM := Aside0.mk hm
      have hn64 : n + 1 ≤ 13 := by have := HK13.out; omega
      clear hi1 hs1 hN1 hg1 hgr hins hm
      go_upto_region 3 with (fail)
      have HX := Aside0.mk (And.intro c13 hc0)
      go_region_held3 (fun w' => w'.cell? ⟨g, 13, none⟩ = some (.pointer (some ⟨K.gg, 0, none⟩)) ∧ w'.cell? ⟨b, off, none⟩ = some (.int .i64 (y : Int))) (first | exact ⟨pw_cell_below HB2.out HX.out.1, pw_cell_below HB2.out HX.out.2⟩ | go_keep)
        (first | (go_at_call 110; (refine (In_calls S2 K.gg e1.gr y _ (HGR.out.keep (Keep.of_below ?q1)) (by rw [HI1.out.gN]; omega) (by rw [HI1.out.gN]; exact hy1) (by rw [HINS.out, HM.out]; omega)).mono ?_); (case q1 => exact pw_below_drewN (Below.refl _ _) 1); rintro en w2 ⟨A6, c6, rfl, h1, h2, h3⟩; rw [HINS.out] at h1 h2; rw [HINS.out, HM.out]; rw [HM.out] at h2; have HRI := Aside0.mk h1; have HFR := Aside0.mk h2; have HB2 := Aside0.mk (below_step (pw_below_drewN (Below.refl _ wr) 1) h3); clear h1 h2 h3))
      have HFAR := Aside0.mk (show ∀ a, A6 = some a → 0 < m → a.block < w2.heap.size ∧ ¬ S1 a.block ∧ a.block ≠ b from fun a ha h0 => by
        have h1 := HFR.out a ha h0
        have h2 := HR.out.q.lt
        have h3 : wr.heap.size ≤ a.block := h1.1
        exact ⟨h1.2, fun hs => by have := HR.out.loc.lt _ hs; omega, by omega⟩)
      have HR2 := Aside0.mk (HR.out.below HB2.out)
      clear c13 hc0
      go_wp2
      obtain ⟨wo, rfl⟩ : ∃ wo : World, wo = wr := ⟨_, rfl⟩
      obtain ⟨ko, rfl⟩ : ∃ ko : Nat, ko = gk := ⟨_, rfl⟩
      go_loopg [4, 24] (m + 1) (fun kq v4 v24 wx => ∃ i b2 off2 n2 cap2 : Nat, v24 = .int .i64 (i : Int) ∧ v4 = .slice (some ⟨b2, off2, none⟩) n2 cap2 ∧ Aside0 (kq + i = m + 1 ∧ i ≤ m ∧ ∃ rest2 e2 S3, SRel S w g K e b2 off2 n2 cap2 ((y : Int) :: rest2) e2 S3 wx ∧ n2 + wN e2 ≤ n + 1 + wN e1 ∧ RI wx A6 ins ∧ ∀ a, A6 = some a → 0 < m → a.block < wx.heap.size ∧ ¬ S3 a.block ∧ a.block ≠ b2))
      case atStart => exact ⟨0, _, _, _, _, rfl, rfl, ⟨by omega, by omega, rest, e1, S1, HR2.out, by omega, HRI.out, HFAR.out⟩⟩
      case round =>
        obtain ⟨i, b2, off2, n2, cap2, rfl, rfl, hA⟩ := hrel
        obtain ⟨hki, him, rest2, e2, S3, hr2, hn2, hri, hfar⟩ := hA.out
        have HR3 := Aside0.mk hr2
        have HN2 := Aside0.mk hn2
        have HRI3 := Aside0.mk hri
        have HF3 := Aside0.mk hfar
        have HKI := Aside0.mk hki
        have hq3 := hr2.q.len
        have hle3 := hr2.q.le
        have hn3 : 1 ≤ n2 := by rw [← hq3]; simp
        obtain ⟨hi2, hs2, hN2, hg2⟩ := hr2.fols.inv HI.out HS.out
        have HI2 := Aside0.mk hi2
        have hNN : e2.N ≤ 12 := hi2.N.2
        have hy2 : y < e2.N := by omega
        have hNE := Aside0.mk hN2
        have hcq := hr2.q.cell 0 (by omega)
        have hcq : wr.cell? ⟨b2, off2, none⟩ = some (.int .i64 (y : Int)) := hcq
        clear hA hr2 hn2 hri hfar hki hq3 hi2 hs2 hN2 hg2
        by_cases hlt : i < m
        · obtain ⟨u, hu, hul⟩ : ∃ u : Nat, ins.getD i 0 = (u : Int) ∧ u < e.N := by
            have hmem : ins.getD i 0 ∈ ins := by
              rw [List.getD_eq_getElem?_getD, List.getElem?_eq_getElem (by rw [HM.out]; exact hlt)]
              exact List.getElem_mem _
            obtain ⟨u, h1, h2⟩ := HI1.out.gr.mem true y (by rw [HI1.out.gN]; exact hy1) _ (by rw [HINS.out]; exact hmem)
            exact ⟨u, h1, by rw [HI1.out.gN, HNEQ.out.1] at h2; exact h2⟩
          obtain ⟨ad, rfl, hcell⟩ := RI.at_ HRI3.out i (by rw [HM.out]; exact hlt)
          rw [hu] at hcell
          have hu2 : u < e2.N := by have := hNE.out; omega
          have c11 := HR3.out.loc.at_.ftasks
          obtain ⟨ct, _, cl, cw, _, _⟩ := HR3.out.loc.at_.ftask u hu2
          obtain ⟨cty, _, cly, _, _, _⟩ := HR3.out.loc.at_.ftask y hy2
          have HLU := Aside0.mk (HR3.out.loc.at_.flife u hu2).1
          have HLY := Aside0.mk (HR3.out.loc.at_.flife y hy2).1
          obtain ⟨wt, hwt⟩ : ∃ wt, e2.waits u = wt := ⟨_, rfl⟩
          rw [hwt] at cw
          have HWT := Aside0.mk hwt
          obtain ⟨su, hsu⟩ : ∃ su, (e2.life u).state = su := ⟨_, rfl⟩
          have HSU := Aside0.mk hsu
          obtain ⟨sy, hsy⟩ : ∃ sy, (e2.life y).state = sy := ⟨_, rfl⟩
          have HSY := Aside0.mk hsy
          have q1 : (0 ≤ (u : Int)) = True := eq_true (by omega)
          have q2 : ((u : Int) < (e2.N : Int)) = True := eq_true (by omega)
          have q3 : (0 ≤ (y : Int)) = True := eq_true (by omega)
          have q4 : ((y : Int) < (e2.N : Int)) = True := eq_true (by omega)
          have q5 : (0 ≤ (i : Int)) = True := eq_true (by omega)
          have q6 : ((i : Int) < (m : Int)) = True := eq_true (by omega)
          have QU := Aside0.mk (fun n => Calls.quiet_of ((State_calls (K.lp u) (e2.life u) (wr.drewN n) HLU.out).mono fun _ _ ⟨h1, h2⟩ => ⟨h1, h2.out⟩))
          have QY := Aside0.mk (fun n => Calls.quiet_of ((State_calls (K.lp y) (e2.life y) (wr.drewN n) HLY.out).mono fun _ _ ⟨h1, h2⟩ => ⟨h1, h2.out⟩))
          rw [HSU.out] at QU
          rw [HSY.out] at QY
          clear hu hwt hsu hsy
          go_upto_region 7 with (fail)
          by_cases hw : wt = (y : Int)
          · by_cases hs3 : su = 3
            · have HFS := Aside0.mk (show FolStep e2 (followSt e2 u sy) from ⟨u, y, hu2, hy2, HWT.out.trans hw, HSU.out.trans hs3, by rw [HSY.out]⟩)
              have HWN := Aside0.mk (wN_follow hu2 (HSU.out.trans hs3) sy)
              have d1 : (wt == (y : Int)) = true := beq_iff_eq.2 hw
              have d2 : (su == 3) = true := beq_iff_eq.2 hs3
              clear hw hs3
              refine Qt.wp_region_quiet_tail 31 (by kernel_rfl) (by kernel_rfl) ?_
              simp only [List.take_succ_cons, List.take_zero, List.drop_succ_cons, List.drop_zero]
              repeat (go_big_quiet_step ((first | (go_at_call 30; exact QU.out _) | (go_at_call 30; exact QY.out _))))
              refine wpQuiet_nil ?_
              intro w9 hw9
              have HR9 := Aside0.mk (HR3.out.below (show Below wr.heap.size wr w9 from by obtain ⟨m, rfl⟩ := hw9; exact pw_below_drewN (Below.refl _ _) m))
              have HRI9 := Aside0.mk (ReadsOf.below HRI3.out (show Below wr.heap.size wr w9 from by obtain ⟨m, rfl⟩ := hw9; exact pw_below_drewN (Below.refl _ _) m))
              have hsz9 := Aside0.mk (show wr.heap.size ≤ w9.heap.size from by obtain ⟨m, rfl⟩ := hw9; exact (pw_below_drewN (Below.refl wr.heap.size wr) m).size)
              clear hw9
              obtain ⟨fb, hfb⟩ : ∃ fb, decide (5 ≤ (followL (e2.life u) sy).state) = fb := ⟨_, rfl⟩
              have HFB := Aside0.mk hfb
              clear hfb
              cases fb
              · go_wp2_with (go_at_call 111; go_loud (refine (follows_calls S3 g K e2 u sy _ HR9.out.loc.at_ HI2.out hu2).mono ?_); rintro en w5 ⟨rfl, h5⟩; rw [HFB.out]; have H5 := Aside0.mk h5; clear h5)
                go_roundg (gk - 1)
                case measure => have := HKI.out; omega
                case rel =>
                  refine ⟨i + 1, b2, off2, n2, cap2, by rw [show ((i : Int) + 1) = ((i + 1 : Nat) : Int) by omega], rfl, ⟨by have := HKI.out; omega, by omega, rest2, _, _, HR9.out.follow HFS.out H5.out, ?_, RI.off HRI9.out ?_, ?_⟩⟩
                  · have := HN2.out; have := HWN.out; omega
                  · intro a ha h0
                    have hf := HF3.out a ha (by rw [← HM.out]; exact h0)
                    exact (HR9.out.loc.own H5.out (by have := hsz9.out; omega) hf.2.1).2
                  · intro a ha h0
                    have hf := HF3.out a ha h0
                    exact ⟨by have := hsz9.out; have := H5.out.2.size; omega, (HR9.out.loc.own H5.out (by have := hsz9.out; omega) hf.2.1).1, hf.2.2⟩
              · go_wp2_with (first
                  | (go_at_call 111; go_loud (refine (follows_calls S3 g K e2 u sy _ HR9.out.loc.at_ HI2.out hu2).mono ?_); rintro en w5 ⟨rfl, h5⟩; rw [HFB.out]; have H5 := Aside0.mk h5; have HR5 := Aside0.mk (HR9.out.follow HFS.out h5); clear h5)
                  | (at_builtin; go_loud (refine wp_qpush (base := w.heap.size) (wb := w5) rfl (.tmp 68) (.tmp 70) 22 rfl Tryz.underlying22 info3 b2 off2 n2 cap2 ((y : Int) :: rest2) (u : Int) rfl rfl HR5.out.q ?a1 ?a2 ?_); (case a1 => have := HR5.out.loc.chg.size; omega); (case a2 => have := HN2.out; have := HK13.out; omega); (intro b6 off6 cap6 w6 hq6 hc6 hb6; have HQ6 := Aside0.mk hq6; have HC6 := Aside0.mk hc6; have HB6 := Aside0.mk hb6; clear hq6 hc6 hb6)))
                go_roundg (gk - 1)
                case measure => have := HKI.out; omega
                case rel =>
                  refine ⟨i + 1, b6, off6, n2 + 1, cap6, by rw [show ((i : Int) + 1) = ((i + 1 : Nat) : Int) by omega], rfl, ⟨by have := HKI.out; omega, by omega, rest2 ++ [(u : Int)], _, _, HR5.out.push hul HQ6.out HC6.out HB6.out, ?_, RI.off HRI9.out ?_, ?_⟩⟩
                  · have := HN2.out; have := HWN.out; omega
                  · intro a ha h0
                    have hf := HF3.out a ha (by rw [← HM.out]; exact h0)
                    have ho := (HR9.out.loc.own H5.out (by have := hsz9.out; omega) hf.2.1)
                    exact (HC6.out.block _ (by have := hsz9.out; have := H5.out.2.size; omega) hf.2.2).trans ho.2
                  · intro a ha h0
                    have hf := HF3.out a ha h0
                    have ho := (HR9.out.loc.own H5.out (by have := hsz9.out; omega) hf.2.1)
                    refine ⟨by have := hsz9.out; have := H5.out.2.size; have := HC6.out.size; omega, ho.1, ?_⟩
                    rcases HB6.out with h | h
                    · rw [h]; exact hf.2.2
                    · have := hsz9.out; have := H5.out.2.size; omega
            · have d1 : (wt == (y : Int)) = true := beq_iff_eq.2 hw
              have d2 : (su == 3) = false := beq_eq_false_iff_ne.2 hs3
              clear hw hs3
              go_quiet ((go_at_call 30; exact QU.out _))
              go_wp2
              go_roundg (gk - 1)
              case measure => have := HKI.out; omega
              case rel =>
                refine ⟨i + 1, b2, off2, n2, cap2, by rw [show ((i : Int) + 1) = ((i + 1 : Nat) : Int) by omega], rfl, ⟨by have := HKI.out; omega, by omega, rest2, e2, S3, HR3.out.below (pw_below_drewN (Below.refl _ _) _), HN2.out, ReadsOf.below HRI3.out (pw_below_drewN (Below.refl _ _) _), HF3.out⟩⟩
          · have b1 : (wt == (y : Int)) = false := beq_eq_false_iff_ne.2 hw
            clear hw
            go_quiet (fail)
            go_wp2
            go_roundg (gk - 1)
            case measure => have := HKI.out; omega
            case rel =>
              refine ⟨i + 1, b2, off2, n2, cap2, by rw [show ((i : Int) + 1) = ((i + 1 : Nat) : Int) by omega], rfl, ⟨by have := HKI.out; omega, by omega, rest2, e2, S3, HR3.out.below (pw_below_drewN (Below.refl _ _) _), HN2.out, ReadsOf.below HRI3.out (pw_below_drewN (Below.refl _ _) _), HF3.out⟩⟩
        · have p2 : ((i : Int) < (m : Int)) = False := eq_false (by omega)
          obtain ⟨n3, rfl⟩ : ∃ n3, n2 = n3 + 1 := ⟨n2 - 1, by omega⟩
          obtain ⟨cap3, rfl⟩ : ∃ c3, cap2 = c3 + 1 := ⟨cap2 - 1, by omega⟩
          by_cases hc3 : cap3 = 0
          · subst hc3
            obtain rfl : n3 = 0 := by omega
            go_wp2
            go_roundg (ko - 1)
            case measure => have := HK.out; omega
            case rel =>
              have hl : rest2 = [] := List.eq_nil_of_length_eq_zero (by have := HR3.out.q.len; simpa using this)
              subst hl
              refine ⟨b2, off2, 0, 0, rfl, ⟨[], e2, S3, ⟨HR3.out.q.none (cap := 0) (by omega), (fun x hx => by cases hx), HR3.out.fols, HR3.out.loc, HR3.out.nb⟩, ?_, ?_⟩⟩
              · have := HK.out; have := HN2.out; omega
              · have := HK13.out; have := HN2.out; omega
          · go_wp2
            go_roundg (ko - 1)
            case measure => have := HK.out; omega
            case rel =>
              refine ⟨b2, off2 + 1, n3, cap3, rfl, ⟨rest2, e2, S3, ⟨HR3.out.q.tail, fun x hx => HR3.out.ids x (List.mem_cons_of_mem _ hx), HR3.out.fols, HR3.out.loc, HR3.out.nb⟩, ?_, ?_⟩⟩
              · have := HK.out; have := HN2.out; omega
              · have := HK13.out; have := HN2.out; omega
end Go.Proofs.YtbpoapfkeinjnaaGreatDoor.Ld
namespace Go.Proofs.YtbpoapfkeinjnaaGreatDoor.Ld
open Go.RowKit Go.Proofs.YtbpoapfkeinjnaaGreatDoorW.PrintWords Go.Proofs.YtbpoapfkeinjnaaGreatDoorW.PrintLast Go.Proofs.YtbpoapfkeinjnaaGreatDoorW.PrintMore
set_option linter.unusedVariables false
set_option linter.unusedSimpArgs false
attribute [local go_sem] max2_int min2_int max_two min_two
def dblF : Nat → Int → Int → Int
  | 0, a, l => if l < a then l else a
  | k + 1, a, l => if 0 < a ∧ a < l then dblF k (if l - a < a then l else a + a) l else if l < a then l else a
theorem dblF_bd : ∀ (k : Nat) (a l : Int), 0 ≤ a → 0 ≤ l → 0 ≤ dblF k a l ∧ dblF k a l ≤ l
  | 0, a, l, h0, h1 => by unfold dblF; split <;> omega
  | k + 1, a, l, h0, h1 => by
    unfold dblF
    split
    · exact dblF_bd k _ l (by split <;> omega) h1
    · split <;> omega
theorem dblF_one (k : Nat) : dblF k 1 1 = 1 := by
  cases k with
  | zero => rfl
  | succ k => unfold dblF; rw [if_neg (by omega)]; rfl
set_option maxHeartbeats 8000000 in
set_option maxRecDepth 100000 in
theorem Double_fn (x n l : Int) (w : World) (hx0 : 0 ≤ x) (hx : x ≤ 1152921504606846976) (hl0 : 0 ≤ l) (hl : l ≤ 1152921504606846976) (hn0 : -1152921504606846976 ≤ n) (hn : n ≤ 1152921504606846976) :
    Calls Tryz.prog 86 #[.int .i64 x, .int .i64 n, .int .i64 l] w fun e w' => e = .returned (.int .i64 (dblF n.toNat x l)) ∧ Drawn0 w w' := by
  have h1 : ¬ x < 0 := by omega
  have h2 : ¬ l < 0 := by omega
  obtain ⟨rr, hrr⟩ : ∃ rr, dblF n.toNat x l = rr := ⟨_, rfl⟩
  have HRR := Aside0.mk hrr
  rw [hrr]
  clear hrr
  go_enter Tryz.func86, Tryz.ntmps86
  go_wp2
  have hk0 : ∃ k0 : Nat, n.toNat + 1 = k0 := ⟨_, rfl⟩
  obtain ⟨k0, hk0⟩ := hk0
  have HK0 := Aside0.mk hk0
  clear hk0
  go_loopg [0, 1] k0 (fun kq v0 v1 wr => ∃ a m : Int, v0 = .int .i64 a ∧ v1 = .int .i64 m ∧ Aside0 (m.toNat + 1 ≤ kq ∧ -1152921504606846976 ≤ m ∧ m ≤ 1152921504606846976 ∧ 0 ≤ a ∧ a ≤ 1152921504606846976 ∧ dblF m.toNat a l = rr ∧ Drawn0 w wr))
  case atStart => exact ⟨x, n, rfl, rfl, ⟨by have := HK0.out; omega, hn0, hn, hx0, hx, HRR.out, by repeat (first | exact Drawn0.refl _ | apply Drawn0.step)⟩⟩
  case round =>
    obtain ⟨a, m, rfl, rfl, hA⟩ := hrel
    obtain ⟨hk, hm0, hm1, ha0, ha1, hdb, hd⟩ := hA.out
    have HK := Aside0.mk hk
    have HDB := Aside0.mk hdb
    have HD := Aside0.mk hd
    clear hA hk hdb hd
    by_cases c1 : 0 < m
    · obtain ⟨k, hk⟩ : ∃ k, m.toNat = k + 1 := ⟨m.toNat - 1, by omega⟩
      have HKK := Aside0.mk hk
      clear hk
      by_cases c2 : 0 < a
      · by_cases c3 : a < l
        · have HN := Aside0.mk (show dblF k (if l - a < a then l else a + a) l = rr from by have := HDB.out; rw [HKK.out] at this; unfold dblF at this; rwa [if_pos ⟨c2, c3⟩] at this)
          have e1 : decide (0 < m) = true := decide_eq_true c1
          have e2 : decide (0 < a) = true := decide_eq_true c2
          have e3 : decide (a < l) = true := decide_eq_true c3
          by_cases c4 : l - a < a
          · go_wp2
            go_roundg (gk - 1)
            case measure => have := HK.out; omega
            case rel => exact ⟨_, _, rfl, rfl, ⟨by have := HK.out; omega, by omega, by omega, by omega, by omega, by rw [show (m - 1).toNat = k by have := HKK.out; omega, show a + (l - a) = l by omega]; have := HN.out; rwa [if_pos (by omega)] at this, HD.out⟩⟩
          · go_wp2
            go_roundg (gk - 1)
            case measure => have := HK.out; omega
            case rel => exact ⟨_, _, rfl, rfl, ⟨by have := HK.out; omega, by omega, by omega, by omega, by omega, by rw [show (m - 1).toNat = k by have := HKK.out; omega]; have := HN.out; rwa [if_neg (by omega)] at this, HD.out⟩⟩
        · have HN := Aside0.mk (show (if l < a then l else a) = rr from by have := HDB.out; rw [HKK.out] at this; unfold dblF at this; rwa [if_neg (fun h => c3 h.2)] at this)
          have e1 : decide (0 < m) = true := decide_eq_true c1
          have e2 : decide (0 < a) = true := decide_eq_true c2
          have e3 : decide (a < l) = false := decide_eq_false c3
          by_cases c5 : l < a
          · go_wp2
            go_ret
            exact ⟨by have := HN.out; rw [if_pos (by omega)] at this; rw [this]; rfl, HD.out⟩
          · go_wp2
            go_ret
            exact ⟨by have := HN.out; rw [if_neg (by omega)] at this; rw [this]; rfl, HD.out⟩
      · have HN := Aside0.mk (show (if l < a then l else a) = rr from by have := HDB.out; rw [HKK.out] at this; unfold dblF at this; rwa [if_neg (fun h => c2 h.1)] at this)
        have e1 : decide (0 < m) = true := decide_eq_true c1
        have e2 : decide (0 < a) = false := decide_eq_false c2
        have c5 : ¬ l < a := by omega
        go_wp2
        go_ret
        exact ⟨by have := HN.out; rw [if_neg (by omega)] at this; rw [this]; rfl, HD.out⟩
    · have HN := Aside0.mk (show (if l < a then l else a) = rr from by have := HDB.out; rw [show m.toNat = 0 by omega] at this; exact this)
      have e1 : decide (0 < m) = false := decide_eq_false c1
      by_cases c5 : l < a
      · go_wp2
        go_ret
        exact ⟨by have := HN.out; rw [if_pos (by omega)] at this; rw [this]; rfl, HD.out⟩
      · go_wp2
        go_ret
        exact ⟨by have := HN.out; rw [if_neg (by omega)] at this; rw [this]; rfl, HD.out⟩
end Go.Proofs.YtbpoapfkeinjnaaGreatDoor.Ld
namespace Go.Proofs.YtbpoapfkeinjnaaGreatDoor.Ld
open Go.RowKit Go.Proofs.YtbpoapfkeinjnaaGreatDoorW.PrintWords Go.Proofs.YtbpoapfkeinjnaaGreatDoorW.PrintLast Go.Proofs.YtbpoapfkeinjnaaGreatDoorW.PrintMore
set_option linter.unusedVariables false
set_option linter.unusedSimpArgs false
attribute [local go_sem] max2_int min2_int max_two min_two
def missedE (e : Eng) (t : Nat) : Eng := { e with life := upf e.life t (missSt (e.life t)) }
def Missed (e : Eng) (t : Nat) (e' : Eng) : Prop :=
  (5 ≤ (missSt (e.life t)).state ∧ ∃ e2, Fols (missedE e t) e2 ∧ Over e2 e') ∨
  ((missSt (e.life t)).state < 5 ∧ ∃ q, SetRel e.tm q t (e.now + dblF ((missSt (e.life t)).missed - 1).toNat e.c.backoff e.c.most) ∧ e' = { missedE e t with tm := q })
theorem missSt_ok {b : Int} {l : LifeS} (h : LifeOk b l) (h2 : l.state = 2) : LifeOk b (missSt l) ∧ (missSt l).missed = l.missed + 1 := by
  have hlt : l.missed < l.tries := by rcases h.mt with h3 | h3; exact h3; omega
  unfold missSt
  rw [if_pos h2]
  refine ⟨⟨?_, h.ep, ?_, ?_, h.tr, h.sp, h.pr⟩, rfl⟩
  · show 0 ≤ (if l.tries ≤ l.missed + 1 then (6 : Int) else 4) ∧ (if l.tries ≤ l.missed + 1 then (6 : Int) else 4) ≤ 7
    split <;> omega
  · show 0 ≤ l.missed + 1 ∧ l.missed + 1 ≤ l.tries
    have := h.ms; omega
  · show l.missed + 1 < l.tries ∨ 5 ≤ (if l.tries ≤ l.missed + 1 then (6 : Int) else 4)
    split
    · right; omega
    · left; omega
theorem EngInv.setTm {e : Eng} (h : EngInv e) {q : Hp} (h1 : HpInv q) (h2 : q.at_.length = e.N) : EngInv { e with tm := q } := { h with tm := h1, tmN := h2 }
theorem missedE_inv {e : Eng} (h : EngInv e) {t : Nat} (ht : t < e.N) (h2 : (e.life t).state = 2) : EngInv (missedE e t) := h.setLife t _ (missSt_ok (h.life t ht) h2).1
theorem Missed.inv {e e' : Eng} {t : Nat} (k : Missed e t e') (h : EngInv e) (hs : Sync e) (ht : t < e.N) (h2 : (e.life t).state = 2) : EngInv e' ∧ Sync e' := by
  have h1 := missedE_inv h ht h2
  rcases k with ⟨_, e2, hf, ho⟩ | ⟨_, q, hq, rfl⟩
  · have h3 := hf.inv h1 hs
    exact ho.inv h3.1 h3.2.1
  · exact ⟨h1.setTm hq.inv (hq.la.trans h.tmN), hs⟩
def MissPost (S : Nat → Prop) (g : Nat) (K : EK) (e : Eng) (t : Nat) (w : World) (en : Ending) (w' : World) : Prop := en = .returned (.tuple #[]) ∧ ∃ e', Missed e t e' ∧ To S w g K e' w'
set_option maxHeartbeats 8000000 in
set_option maxRecDepth 100000 in
theorem miss_calls (S : Nat → Prop) (bm g : Nat) (K : EK) (e : Eng) (t : Nat) (w : World) (H : EngAt S w g K e) (hi : EngInv e) (hs : Sync e) (hg : Glb bm S w) (ht : t < e.N) (h2 : (e.life t).state = 2) :
    Calls Tryz.prog 48 #[.pointer (some ⟨g, 0, none⟩), .int .i64 (t : Int)] w (MissPost S g K e t w) := by
  have HI := Aside0.mk hi
  have HSY := Aside0.mk hs
  have HG := Aside0.mk hg
  have H2 := Aside0.mk h2
  have hN := hi.N.2
  have c11 := H.ftasks
  obtain ⟨ct, _, cl, _, _, _⟩ := H.ftask t ht
  obtain ⟨hli, hlb⟩ := H.flife t ht
  have HLI := Aside0.mk hli
  have HLB := Aside0.mk hlb
  have HE := Aside0.mk H
  have HOK := Aside0.mk (missSt_ok (hi.life t ht) h2)
  have HLO := Aside0.mk (hi.life t ht)
  have HI1 := Aside0.mk (missedE_inv hi ht h2)
  have q1 : (0 ≤ (t : Int)) = True := eq_true (by omega)
  have q2 : ((t : Int) < (e.N : Int)) = True := eq_true (by omega)
  clear H hi hs hg h2 hli hlb
  go_enter Tryz.func48, Tryz.ntmps48
  go_upto_region 2 with (go_at_call 84; (with_reducible refine (LMiss_calls (K.lp t) (e.life t) H2.out ?q1 _ HLI.out).mono ?_); (case q1 => have h1 := HLO.out.ms; have h2 := HLO.out.tr; omega); rintro en w2 ⟨rfl, h3, k3⟩; have HL2 := Aside0.mk h3; have HT2 := Aside0.mk (show To S w g K (missedE e t) w2 from HLB.out _ _ h3 k3); clear h3 k3)
  have cl2 := (HT2.out.1.ftask t ht).2.2.1
  have c112 := HT2.out.1.ftasks
  obtain ⟨st, hst⟩ : ∃ st, (missSt (e.life t)).state = st := ⟨_, rfl⟩
  have HST := Aside0.mk hst
  clear hst c11 ct cl
  by_cases h5 : 5 ≤ st
  · have b5 : decide (5 ≤ st) = true := decide_eq_true h5
    have H5 := Aside0.mk h5
    have hgd : Aside0 (∀ w3, Below w2.heap.size w2 w3 → Glb bm (up S w w3) w3) := ⟨fun w3 hb => HG.out.to (HT2.out.then_below hb).2⟩
    have HTN := Aside0.mk (show t < (missedE e t).N from ht)
    have HSY1 := Aside0.mk (show Sync (missedE e t) from HSY.out)
    clear h5
    go_wp2_with (first
      | (go_at_call 76; (with_reducible refine (Final_calls (K.lp t) _ _ HL2.out).mono ?_); rintro en w3 ⟨rfl, hd⟩; rw [HST.out]; have HD := Aside0.mk hd.below; clear hd)
      | (go_at_call 63; go_loud (refine (settle_calls _ bm g K (missedE e t) t _ (HT2.out.then_below HD.out).1 HI1.out HSY1.out (hgd.out _ HD.out) HTN.out).mono ?_); rintro en w4 ⟨rfl, e2, e', hf, ho, h4⟩; have HF := Aside0.mk hf; have HO := Aside0.mk ho; have H4 := Aside0.mk h4; clear hf ho h4))
    first | go_end0 | go_ret
    exact ⟨rfl, e', .inl ⟨by rw [HST.out]; exact H5.out, e2, HF.out, HO.out⟩, (HT2.out.then_below HD.out).trans H4.out⟩
  · have b5 : decide (5 ≤ st) = false := decide_eq_false h5
    have H5 := Aside0.mk h5
    clear h5
    go_upto_region 4 with (go_at_call 76; (with_reducible refine (Final_calls (K.lp t) _ _ HL2.out).mono ?_); rintro en w3 ⟨rfl, hd⟩; rw [HST.out]; have HD := Aside0.mk hd.below; clear hd)
    have HT3 := Aside0.mk (HT2.out.then_below HD.out)
    obtain ⟨c0, _, _, c7, c8⟩ := HT3.out.1.fc
    have c18 := HT3.out.1.fnow
    have cl3 := (HT3.out.1.ftask t ht).2.2.1
    obtain ⟨c14, _⟩ := HT3.out.1.tm
    have HL3 := Aside0.mk (HL2.out.below HD.out)
    obtain ⟨bo, hbo⟩ : ∃ bo, (missedE e t).c.backoff = bo := ⟨_, rfl⟩
    obtain ⟨mo, hmo⟩ : ∃ mo, (missedE e t).c.most = mo := ⟨_, rfl⟩
    obtain ⟨now, hnow⟩ : ∃ now, (missedE e t).now = now := ⟨_, rfl⟩
    obtain ⟨ms, hms⟩ : ∃ ms, (missSt (e.life t)).missed = ms := ⟨_, rfl⟩
    have hbb := HI1.out.c.backoff
    have hmb := HI1.out.c.most
    have hnb := HI1.out.now
    have hmsb : 1 ≤ ms ∧ ms ≤ 1048577 := by
      have h1 := HOK.out.2
      have h2 := HLO.out.ms
      have h3 := HLO.out.tr
      rw [hms] at h1
      omega
    rw [hbo] at c7 hbb
    rw [hmo] at c8 hmb
    rw [hnow] at c18 hnb
    have hdb := dblF_bd (ms - 1).toNat bo mo (by omega) (by omega)
    obtain ⟨D, hD⟩ : ∃ D, dblF (ms - 1).toNat bo mo = D := ⟨_, rfl⟩
    rw [hD] at hdb
    have HDD := Aside0.mk hD
    have HEQS := Aside0.mk (And.intro hbo (And.intro hmo (And.intro hnow hms)))
    have QM := Aside0.mk (fun n => Calls.quiet_of ((Missed_calls (K.lp t) (missSt (e.life t)) (w3.drewN n) HL3.out).mono fun _ _ ⟨h1, h2⟩ => ⟨h1, h2.out⟩))
    have QD := Aside0.mk (fun n => Calls.quiet_of ((Double_fn bo (ms - 1) mo (w3.drewN n) (by omega) (by omega) (by omega) (by omega) (by omega) (by omega)).mono fun _ _ ⟨h1, h2⟩ => ⟨h1, h2.out⟩))
    rw [hms] at QM
    rw [hD] at QD
    have e1 : IntKind.i64.wrap (ms - 1) = ms - 1 := IntWalk.i64_in _ (by omega)
    have e2 : IntKind.i64.wrap (now + D) = now + D := IntWalk.i64_in _ (by omega)
    clear hbo hmo hnow hms hD c0 cl2 c112 hmsb hbb hmb
    refine Qt.wp_region_quiet_tail 27 (by kernel_rfl) (by kernel_rfl) ?_
    simp only [List.take_succ_cons, List.take_zero, List.drop_succ_cons, List.drop_zero]
    repeat (go_big_quiet_step ((first | (go_at_call 87; exact QM.out _) | (go_at_call 86; exact QD.out _))))
    refine wpQuiet_nil ?_
    intro w9 hw9
    have HT9 := Aside0.mk (HT3.out.then_below (show Below w3.heap.size w3 w9 from by obtain ⟨m, rfl⟩ := hw9; exact pw_below_drewN (Below.refl _ _) m))
    clear hw9 c7 c8 c18 cl3 c14 e1 e2
    obtain ⟨c14, S2, htm, hlt, hback⟩ := HT9.out.1.tm
    have HTM := Aside0.mk htm
    have HBACK := Aside0.mk hback
    clear htm hback hlt
    go_wp2_with (go_at_call 85; go_loud (refine (TmSet_calls S2 K.gm e.tm t (now + D) _ HTM.out HI.out.tm (by rw [HI.out.tmN]; exact ht) (by rw [HI.out.tmN]; omega)).mono ?_); rintro en w5 ⟨rfl, ⟨q, hq, hq2⟩, hc⟩; have HQ := Aside0.mk hq; have H5' := Aside0.mk (HBACK.out _ _ hq2 hc); clear hq hq2 hc)
    go_end0
    refine ⟨rfl, _, .inr ⟨by rw [HST.out]; have := H5.out; omega, q, ?_, rfl⟩, HT9.out.trans H5'.out⟩
    have h1 := HQ.out
    rw [← HDD.out, ← HEQS.out.1, ← HEQS.out.2.1, ← HEQS.out.2.2.1, ← HEQS.out.2.2.2] at h1
    exact h1
end Go.Proofs.YtbpoapfkeinjnaaGreatDoor.Ld
