/- The engine of the yard and what it leans on, part 28. -/
import Derived.Test.YtbpoapfkeinjnaaGreatDoorK27
import Derived.Laws.BitsLemmas
import Derived.Test.YtbpoapfkeinjnaaGreatDoorRows
import Derived.ProofKit
import Derived.LaidMore
import Derived.OpenShut
import Derived.Stop.Joined
import Derived.Maps.OwnSet
namespace Go.Proofs.YtbpoapfkeinjnaaGreatDoor.Ld
open Go.RowKit Go.Proofs.YtbpoapfkeinjnaaGreatDoorW.PrintWords Go.Proofs.YtbpoapfkeinjnaaGreatDoorW.PrintLast Go.Proofs.YtbpoapfkeinjnaaGreatDoorW.PrintMore
set_option linter.unusedVariables false
set_option linter.unusedSimpArgs false
set_option linter.unnecessarySimpa false
def Ans (S : Nat → Prop) (g : Nat) (w : World) (Q : Int → Int → Int → Int → Int → Int → Eng → Prop) (en : Ending) (w' : World) : Prop :=
  ∃ a b c d f er e' K', en = .returned (.tuple #[.agg #[.int .i64 a, .int .i64 b, .int .i64 c, .int .i64 d, .int .i64 f], .int .i64 er]) ∧ Aside0 (Q a b c d f er e') ∧ Aside0 (To S w g K' e' w')
theorem Ans.of {S : Nat → Prop} {g : Nat} {w : World} {Rel : Value → Int → Eng → Prop} {Q : Int → Int → Int → Int → Int → Int → Eng → Prop} {en : Ending} {w' : World} (h : OpPost Rel S g w en w') (k : ∀ a b c d f er e', Rel (reply a b c d f) er e' → Q a b c d f er e') : Ans S g w Q en w' := by
  obtain ⟨a, b, c, d, f, er, e', K', h1, h2, h3⟩ := h
  exact ⟨a, b, c, d, f, er, e', K', h2, ⟨k _ _ _ _ _ _ _ h1⟩, ⟨h3⟩⟩
section
variable {C : Kc} {cost : Int} {n : Nat} {wt : Nat → Int} {a : Nat} {st : Int} {hd on : Bool} {k m lg : Nat} {e : Eng} {got : Nat → Int} {S : Nat → Prop} {bm g : Nat} {K : EK} {w : World}
theorem dispatch_any (hi : EngInv e) (hs : Sync e) (hsl : 0 < slots e.led) (hb : e.begun ≤ 1000000) (hl : e.log.length ≤ 1000000) (o : Opr) (H : EngAt S w g K e) (hg : Glb bm S w) :
    Calls Tryz.prog 21 (opArgs g o) w (OpPost (DispR (RAll e) e) S g w) := by
  refine (dispatch_of S bm g K e (.int .i64 o.k) (.int .i64 o.a) (.int .i64 o.b) (.int .i64 o.c) (.int .i64 o.d) w H hi hs hg (RAll e) ?_ ?_).mono ?_
  · intro w' S' l n cp np cq B P pr H' hne hn hn2 hall hr _ _
    refine (fits_some S' g K e l n cp np cq B P pr w' H' hi hsl hne hn hn2 hall hr).mono ?_
    intro en w2 h
    rcases h with ⟨e', h1, ⟨h2, h3⟩, h4⟩ | ⟨B', c', ys, e', h1, h2, h3, ⟨h4, h5⟩, h6⟩
    · exact .inl ⟨e', h1, ⟨h2, h3, hall, by omega⟩, h4⟩
    · exact .inr ⟨B', c', ys, e', h1, h2, h3, ⟨h4, h5, hall, by omega⟩, h6⟩
  · intro l e' ys h
    obtain ⟨rfl, rfl, h3, h4⟩ := h
    exact ⟨hi, rfl, rfl, rfl, rfl, hb, hl, h3, h4⟩
  · intro en w' h
    obtain ⟨a, b, c, d, f, er, e', h1, h2, h3⟩ := h
    exact ⟨a, b, c, d, f, er, e', K, h1, h2, h3⟩
theorem Mid.slots (h : Mid C cost n wt a st false on k m lg e got) : 0 < slots e.led := by
  unfold Ld.slots
  rw [h.many]
  show (0 : Int) < ((0 + if (e.led.p 0).held = true then 0 else 1 : Nat) : Int)
  rw [h.free_all 0]
  decide
theorem doDispatch (h : Mid C cost n wt a 1 false false k m lg e got) (hc : 1 ≤ cost ∧ cost ≤ 1048576) (hm : m ≤ 900) (hl : lg ≤ 900) (H : EngAt S w g K e) (hg : Glb bm S w) :
    Calls Tryz.prog 8 #[.pointer (some ⟨g, 0, none⟩), .agg #[.int .i64 4, .int .i64 0, .int .i64 0, .int .i64 0, .int .i64 0]] w (Ans S g w fun x y z u v er e' => er = 0 ∧ ∃ b : Nat, b < n ∧ x = (b : Int) ∧ u = 0 ∧ v = (e'.life b).epoch ∧ Mid C cost n wt b 2 true true k (m + 1) (lg + 1) e' (upf got b (got b + cost)) ∧ e'.c = e.c) := by
  refine (do_of S bm g K e ⟨4, 0, 0, 0, 0⟩ w H hg rfl (DispR (RAll e) e) (fun h0 => absurd (show mN 4 = 0 from h0) (by decide)) (fun _ w' S' H' hg' => ?_)).mono fun en w' hp => Ans.of hp fun x y z u v er e' hR => h.dispatch hc hR
  exact dispatch_any h.inv h.sync h.slots (by have := h.begun; omega) (by have := h.log; omega) _ H' hg'
theorem doAnswer (h : Mid C cost n wt a 2 true true k m lg e got) (ha : a < n) (hm : (m : Int) + 1 < C.c.tries) (hl : lg ≤ 900) (H : EngAt S w g K e) (hg : Glb bm S w) (ep : Int) (hep : ep = (e.life a).epoch) :
    Calls Tryz.prog 8 #[.pointer (some ⟨g, 0, none⟩), .agg #[.int .i64 5, .int .i64 0, .int .i64 ep, .int .i64 2, .int .i64 0]] w (Ans S g w fun x y z u v er e' => er = 0 ∧ Mid C cost n wt a 4 false true k (m + 1) (lg + 1) e' got ∧ e'.tm.keys.getD a 0 ≤ (k : Int) + 1 ∧ e'.c = e.c) := by
  refine (do_of S bm g K e ⟨5, 0, ep, 2, 0⟩ w H hg rfl (AnsR (fun _ _ _ _ => False) e ⟨5, 0, ep, 2, 0⟩) (fun h0 => absurd (show mN 5 = 0 from h0) (by decide)) (fun _ w' S' H' hg' => ?_)).mono fun en w' hp => Ans.of hp fun x y z u v er e' hR => h.answer ha hm rfl hep rfl hR
  refine (answer_of S' bm g K e ⟨5, 0, ep, 2, 0⟩ w' H' h.inv h.sync hg' (by have := h.log; omega) (fun _ _ _ _ => False) (fun _ _ _ _ _ h3 => absurd (show (2 : Int) = 3 from h3) (by decide)) (fun _ _ _ _ h => h.elim)).mono ?_
  intro en w2 ⟨a, b, c, d, f, er, e', h1, h2, h3⟩
  exact ⟨a, b, c, d, f, er, e', K, h1, h2, h3⟩
theorem doTick (h : Mid C cost n wt a 4 false true k m lg e got) (ha : a < n) (hk : k ≤ 900) (hl : lg ≤ 900) (hkey : e.tm.keys.getD a 0 ≤ (k : Int) + 1) (H : EngAt S w g K e) (hg : Glb bm S w) :
    Calls Tryz.prog 8 #[.pointer (some ⟨g, 0, none⟩), .agg #[.int .i64 3, .int .i64 0, .int .i64 0, .int .i64 0, .int .i64 0]] w (Ans S g w fun x y z u v er e' => er = 0 ∧ Mid C cost n wt a 1 false false (k + 1) m lg e' got ∧ e'.c = e.c) := by
  refine (do_of S bm g K e ⟨3, 0, 0, 0, 0⟩ w H hg rfl (TickR e) (fun h0 => absurd (show mN 3 = 0 from h0) (by decide)) (fun _ w' S' H' hg' => ?_)).mono fun en w' hp => Ans.of hp fun x y z u v er e' hR => h.tick ha (by omega) hkey hR
  refine (tick_calls S' bm g K e ⟨3, 0, 0, 0, 0⟩ w' H' h.inv h.sync hg' (by have := h.log; omega)).mono ?_
  intro en w2 ⟨a, b, c, d, f, er, e', h1, h2, h3⟩
  exact ⟨a, b, c, d, f, er, e', K, h1, h2, h3⟩
theorem doSubmit {j : Nat} (h : Sub C cost n wt j e) (hj : j < n) (hw : 1 ≤ wt j ∧ wt j ≤ 20) (wj p : Int) (hwj : wj = wt j) (hpp : p = C.P) (H : EngAt S w g K e) (hg : Glb bm S w) :
    Calls Tryz.prog 8 #[.pointer (some ⟨g, 0, none⟩), .agg #[.int .i64 1, .int .i64 (j : Int), .int .i64 wj, .int .i64 p, .int .i64 0]] w (Ans S g w fun x y z u v er e' => er = 0 ∧ x = (j : Int) ∧ Sub C cost n wt (j + 1) e') := by
  refine (do_of S bm g K e ⟨1, (j : Int), wj, p, 0⟩ w H hg rfl (SubmitR e ⟨1, (j : Int), wj, p, 0⟩) (fun h0 => absurd (show mN 1 = 0 from h0) (by decide)) (fun _ w' S' H' hg' => ?_)).mono fun en w' hp => Ans.of hp fun x y z u v er e' hR => h.submit hj hw rfl hwj hpp hR
  refine (submit_calls S' bm g K e ⟨1, (j : Int), wj, p, 0⟩ w' H' h.inv h.sync hg').mono ?_
  intro en w2 ⟨a, b, c, d, f, er, e', h1, h2, K', h3⟩
  exact ⟨a, b, c, d, f, er, e', K', h1, h2, h3⟩
end
end Go.Proofs.YtbpoapfkeinjnaaGreatDoor.Ld
namespace Go.Proofs.YtbpoapfkeinjnaaGreatDoor.Ld
open Go.RowKit Go.Proofs.YtbpoapfkeinjnaaGreatDoorW.PrintWords Go.Proofs.YtbpoapfkeinjnaaGreatDoorW.PrintLast Go.Proofs.YtbpoapfkeinjnaaGreatDoorW.PrintMore
set_option linter.unusedVariables false
set_option linter.unusedSimpArgs false
set_option linter.unnecessarySimpa false
theorem i64_and20 (n : Int) : bits .and .i64 n 1048575 = n % 1048576 := by
  have h127 : (BitVec.ofInt 64 1048575).toNat = 2 ^ 20 - 1 := by decide
  have key : (BitVec.ofInt 64 n &&& BitVec.ofInt 64 1048575).toNat = (n % ((2 ^ 64 : Nat) : Int)).toNat % 2 ^ 20 := by
    rw [BitVec.toNat_and, BitVec.toNat_ofInt, h127, Nat.and_two_pow_sub_one_eq_mod]
  show IntKind.i64.wrap ((BitVec.ofInt 64 n &&& BitVec.ofInt 64 1048575).toNat : Nat) = n % 1048576
  rw [key, IntKind.wrap_i64]
  omega
def cutF (n lo hi : Int) : Int := lo + (n % 1048576).tmod (hi - lo + 1)
theorem cutF_in (n lo hi : Int) (h : lo ≤ hi) : lo ≤ cutF n lo hi ∧ cutF n lo hi ≤ hi := by
  unfold cutF
  have h0 : 0 ≤ n % 1048576 := Int.emod_nonneg _ (by decide)
  rw [Int.tmod_eq_emod_of_nonneg h0]
  have h1 := Int.emod_nonneg (n % 1048576) (show hi - lo + 1 ≠ 0 by omega)
  have h2 := Int.emod_lt_of_pos (n % 1048576) (show 0 < hi - lo + 1 by omega)
  omega
theorem cutF_zero (lo hi : Int) (h : lo ≤ hi) : cutF 0 lo hi = lo := by unfold cutF; simp
set_option maxHeartbeats 8000000 in
set_option maxRecDepth 100000 in
theorem lcut_calls (n lo hi : Int) (h0 : 0 ≤ lo) (h : lo ≤ hi) (h1 : hi ≤ 1000) (w : World) : Calls Tryz.prog 6 #[.int .i64 n, .int .i64 lo, .int .i64 hi] w fun e w' => e = .returned (.int .i64 (cutF n lo hi)) ∧ w' = w := by
  have hb := i64_and20 n
  have hr := cutF_in n lo hi h
  have hz : ((hi - lo + 1 : Int) == 0) = false := beq_eq_false_iff_ne.2 (by omega)
  obtain ⟨x, hx⟩ : ∃ x, n % 1048576 = x := ⟨_, rfl⟩
  have hx0 : 0 ≤ x ∧ x < 1048576 := by subst hx; exact ⟨Int.emod_nonneg _ (by decide), Int.emod_lt_of_pos _ (by decide)⟩
  rw [hx] at hb
  have hq : cutF n lo hi = lo + x.tmod (hi - lo + 1) := by unfold cutF; rw [hx]
  rw [hq] at hr
  have HQ := Aside0.mk hq
  obtain ⟨y, hy⟩ : ∃ y, x.tmod (hi - lo + 1) = y := ⟨_, rfl⟩
  rw [hy] at hr hq
  rw [hq]
  clear hx hq
  go_enter Tryz.func6, Tryz.ntmps6
  go_wp2_with (simp only [hb])
  go_ret
  exact ⟨rfl, rfl⟩
end Go.Proofs.YtbpoapfkeinjnaaGreatDoor.Ld
namespace Go.Proofs.YtbpoapfkeinjnaaGreatDoor.Ld
open Go.RowKit Go.Proofs.YtbpoapfkeinjnaaGreatDoorW.PrintWords Go.Proofs.YtbpoapfkeinjnaaGreatDoorW.PrintLast Go.Proofs.YtbpoapfkeinjnaaGreatDoorW.PrintMore
set_option linter.unusedVariables false
set_option linter.unusedSimpArgs false
set_option linter.unnecessarySimpa false
def cfgW : Cf := ⟨1000, 1, 16, 0, 1, 0, 1, 1, 1, 1⟩
def kcW : Kc := ⟨1, 3, cfgW⟩
theorem kcW_ok : KcOk 1 kcW where
  c := ⟨by decide, by decide, by decide, by decide, by decide, by decide, by decide, by decide, by decide, by decide⟩
  slots := rfl
  most := rfl
  N := by decide
  P := by decide
  nb := by decide
  active := by decide
  budget := by decide
structure Fin1 (e : Eng) : Prop where
  inv : EngInv e
  sync : Sync e
  nr : e.nr = 1
  st : (e.rq 0).state = 2
theorem fols_none {e e' : Eng} (h : Fols e e') (hn : ∀ u, u < e.N → (e.life u).state ≠ 3) : e' = e := by
  have key : ∀ {a b : Eng}, Fols a b → (∀ u, u < a.N → (a.life u).state ≠ 3) → b = a := by
    intro a b h
    induction h with
    | refl => intro _; rfl
    | step h k ih =>
      intro hn
      have h1 := ih hn
      subst h1
      obtain ⟨u, t, hu, _, _, h3, _⟩ := k
      exact absurd h3 (hn u hu)
  exact key h hn
theorem Mid.did {C : Kc} {cost : Int} {wt : Nat → Int} {k m lg : Nat} {e : Eng} {got : Nat → Int} (h : Mid C cost 1 wt 0 2 true true k m lg e got) (hN : C.N = 1) {Nd : Eng → Nat → Nat → Eng → Prop} {o : Opr} (o1 : o.a = 0) (o2 : o.b = (e.life 0).epoch) (o3 : o.c = 1) {rv : Value} {er : Int} {e' : Eng} (hA : AnsR Nd e o rv er e') :
    er = 0 ∧ Fin1 e' := by
  have hl2 := h.l2
  have hat : atB e.led o.a = true ∧ atI e.led o.a = ((0 : Nat) : Int) := by
    unfold atB atI
    rw [o1, h.many, if_pos ⟨by omega, by decide⟩, if_pos ⟨by omega, by decide⟩]
    exact h.slot rfl
  rcases hA with ⟨h1, _⟩ | ⟨t, _, hid, htN, h2⟩
  · rw [hat.1] at h1; cases h1
  have hta : t = 0 := by rw [hat.2] at hid; omega
  subst hta
  rcases h2 with ⟨h3, _⟩ | ⟨_, _, h3⟩
  · exact absurd ⟨h.lifeA, o2⟩ h3
  rcases h3 with ⟨h4, _⟩ | ⟨⟨q1, hq1, hT⟩, _, her⟩
  · rw [o3] at h4; omega
  rcases hT with ⟨_, e2, hf, hov⟩ | ⟨h4, _⟩ | ⟨h4, _⟩
  · have hst := h.lifeA
    have hss : stepSt (e.life 0) 2 5 = { e.life 0 with state := 5 } := by unfold stepSt; rw [if_pos hst]
    have hlf : (endE (endsSt e 2 0 q1) 0).life 0 = { e.life 0 with state := 5 } := by
      show upf e.life 0 (stepSt (e.life 0) 2 5) 0 = _
      rw [upf_same, hss]
    have hsy0 : e.tu.l.map Mb.id = e.ad.l1 := h.sync
    have hi1 : EngInv (endE (endsSt e 2 0 q1) 0) := (endsSt_inv h.inv hq1).setLife 0 _ ((h.inv.life 0 (by rw [h.N]; omega)).step 2 5 ⟨by omega, by omega⟩ (fun h => by omega))
    have hs1 : Sync (endE (endsSt e 2 0 q1) 0) := hsy0
    have he2 : e2 = endE (endsSt e 2 0 q1) 0 := fols_none hf fun u hu => by
      have hu' : u < e.N := hu
      rw [h.N, hN] at hu'
      have : u = 0 := by omega
      subst this
      rw [hlf]
      show (5 : Int) ≠ 3
      omega
    obtain ⟨i1, i2⟩ := hov.inv (he2 ▸ hi1) (he2 ▸ hs1)
    suffices hh : e'.nr = 1 ∧ (e'.rq 0).state = 2 from ⟨her, i1, i2, hh.1, hh.2⟩
    subst he2
    have hl1 : e.ad.l1 = [(0 : Int)] := by rw [h.l1]; rfl
    have hro : ∀ ee : Eng, ee.rq = e.rq → rootN ee 0 = 0 := fun ee h1 => by unfold rootN; rw [h1, (h.rq 0 (by omega)).1]; rfl
    have hro1 : rootN (endE (endsSt e 2 0 q1) 0) 0 = 0 := hro _ rfl
    have hix1 : indexI e.ad.l1 0 = 0 := by rw [hl1]; rfl
    have hix2 : indexI e.ad.l2 0 = -1 := by rw [hl2]; rfl
    cases hov with
    | done _ hd =>
      have h5 := hd 0 (by show (0 : Int) ∈ e.ad.l1; rw [hl1]; exact List.mem_singleton.2 rfl)
      rw [hro1, hlf] at h5
      have h6 : (5 : Int) < 5 := h5
      omega
    | step r hr hf5 k =>
      have hr0 : r = 0 := by
        have h5 : (r : Int) ∈ e.ad.l1 := hr
        rw [hl1] at h5
        have := List.mem_singleton.1 h5
        omega
      subst hr0
      have hv : verdI ((endE (endsSt e 2 0 q1) 0).life (rootN (endE (endsSt e 2 0 q1) 0) 0)).state = 2 := by rw [hro1, hlf]; rfl
      rw [hv] at k
      have hle : leavesSt (endE (endsSt e 2 0 q1) 0) 0 2 = leftSt (endE (endsSt e 2 0 q1) 0) 0 2 := by
        unfold leavesSt
        refine if_neg fun h5 => ?_
        have h6 : 0 ≤ aEndI e.ad 0 := h5.2
        unfold aEndI at h6
        rw [hix2, hix1, if_neg (by omega), if_neg (by omega), if_pos hl2] at h6
        omega
      rw [hle] at k
      have hl1' : (leftSt (endE (endsSt e 2 0 q1) 0) 0 2).ad.l1 = [] := by
        show (aEndSt e.ad 0).l1 = []
        unfold aEndSt
        rw [hix2, hix1, if_neg (by omega), if_neg (by omega), if_pos hl2]
        show drop1 e.ad.l1 0 = []
        rw [drop1_erase, hl1]
        rfl
      have he' := over_none k fun r hr => by rw [hl1'] at hr; cases hr
      rw [he']
      refine ⟨h.nr, ?_⟩
      have h9 : (leftSt (endE (endsSt e 2 0 q1) 0) 0 2).rq 0 = { e.rq 0 with state := 2 } := by
        show upf e.rq 0 { e.rq 0 with state := 2 } 0 = _
        exact upf_same _ _ _
      rw [h9]
  · rw [o3] at h4; omega
  · rw [o3] at h4; omega
section
variable {S : Nat → Prop} {bm g : Nat} {K : EK} {w : World} {e : Eng}
theorem doDid {C : Kc} {cost : Int} {wt : Nat → Int} {k m lg : Nat} {got : Nat → Int} (h : Mid C cost 1 wt 0 2 true true k m lg e got) (hN : C.N = 1) (hl : lg ≤ 900) (H : EngAt S w g K e) (hg : Glb bm S w) (ep : Int) (hep : ep = (e.life 0).epoch) :
    Calls Tryz.prog 8 #[.pointer (some ⟨g, 0, none⟩), .agg #[.int .i64 5, .int .i64 0, .int .i64 ep, .int .i64 1, .int .i64 0]] w (Ans S g w fun x y z u v er e' => er = 0 ∧ Fin1 e') := by
  refine (do_of S bm g K e ⟨5, 0, ep, 1, 0⟩ w H hg rfl (AnsR (fun _ _ _ _ => False) e ⟨5, 0, ep, 1, 0⟩) (fun h0 => absurd (show mN 5 = 0 from h0) (by decide)) (fun _ w' S' H' hg' => ?_)).mono fun en w' hp => Ans.of hp fun x y z u v er e' hR => h.did hN rfl hep rfl hR
  refine (answer_of S' bm g K e ⟨5, 0, ep, 1, 0⟩ w' H' h.inv h.sync hg' (by have := h.log; omega) (fun _ _ _ _ => False) (fun _ _ _ _ _ h3 => absurd (show (1 : Int) = 3 from h3) (by decide)) (fun _ _ _ _ h => h.elim)).mono ?_
  intro en w2 ⟨a, b, c, d, f, er, e', h1, h2, h3⟩
  exact ⟨a, b, c, d, f, er, e', K, h1, h2, h3⟩
theorem doQuery0 (h : Fin1 e) (H : EngAt S w g K e) (hg : Glb bm S w) :
    Calls Tryz.prog 8 #[.pointer (some ⟨g, 0, none⟩), .agg #[.int .i64 6, .int .i64 0, .int .i64 0, .int .i64 0, .int .i64 0]] w (Ans S g w fun x y z u v er e' => er = 0 ∧ y = 2 ∧ e' = e) := by
  refine (do_of S bm g K e ⟨6, 0, 0, 0, 0⟩ w H hg rfl (QueryR e ⟨6, 0, 0, 0, 0⟩) (fun h0 => absurd (show mN 6 = 0 from h0) (by decide)) (fun _ w' S' H' hg' => ?_)).mono fun en w' hp => Ans.of hp fun x y z u v er e' hR => ?_
  · refine (query_calls S' bm g K e ⟨6, 0, 0, 0, 0⟩ w' H' h.inv h.sync hg').mono ?_
    intro en w2 ⟨a, b, c, d, f, er, e', h1, h2, h3⟩
    exact ⟨a, b, c, d, f, er, e', K, h1, h2, h3⟩
  · rcases hR with ⟨h1, _⟩ | ⟨r, h1, _, hrv, her, he⟩
    · exact absurd ⟨Int.le_refl _, by show (0 : Int) < (e.nr : Int); rw [h.nr]; decide⟩ h1
    · have h1' : (0 : Int) = (r : Int) := h1
      have hr : r = 0 := by omega
      subst hr
      exact ⟨her, ((reply_inj hrv).2.1).trans h.st, he⟩
end
end Go.Proofs.YtbpoapfkeinjnaaGreatDoor.Ld
namespace Go.Proofs.YtbpoapfkeinjnaaGreatDoor.Ld
open Go.RowKit Go.Proofs.YtbpoapfkeinjnaaGreatDoorW.PrintWords Go.Proofs.YtbpoapfkeinjnaaGreatDoorW.PrintLast Go.Proofs.YtbpoapfkeinjnaaGreatDoorW.PrintMore
set_option linter.unusedVariables false
set_option linter.unusedSimpArgs false
set_option linter.unnecessarySimpa false
theorem info29' : (Tryz.prog.info? 29).map (fun i => (i.zero, i.size, i.bytes)) = some (some (.agg #[.int .i64 0, .int .i64 0]), 2, 16) := by kernel_rfl
set_option maxHeartbeats 8000000 in
set_option maxRecDepth 100000 in
theorem tasks_nil (w : World) : Calls Tryz.prog 11 #[.slice none 0 0] w fun en w' => ∃ v, en = .returned v ∧ NewR w 29 2 v 1 [.int .i64 1, .int .i64 1] w' := by
  go_enter Tryz.func11, Tryz.ntmps11
  go_wp2
  go_loopg [3, 4] 1 (fun kq v3 v4 wr => v3 = .slice none 0 0 ∧ v4 = .int .i64 0 ∧ Aside0 (wr = w))
  case atStart => exact ⟨rfl, rfl, ⟨rfl⟩⟩
  case round =>
    obtain ⟨rfl, rfl, hA⟩ := hrel
    obtain rfl := hA.out
    clear hA
    have hn := Aside0.mk (show NewR wr 29 2 (.slice none 0 0) 0 [] (wr.alloc (.cells #[.int .i64 1, .int .i64 1] 29)) from ⟨RowAt.nil _ _ _ _, below_alloc (Below.refl _ _) _⟩)
    have hb := Aside0.mk (heap_alloc_new wr (.cells #[.int .i64 1, .int .i64 1] 29))
    go_wp2_with (at_builtin; go_loud (refine wp_more rfl (.tmp 34) (.tmp 36) 27 29 (.agg #[.int .i64 0, .int .i64 0]) 2 16 rfl Tryz.underlying27 info29' rfl (by decide) (.slice none 0 0) 0 wr.heap.size [] [.int .i64 1, .int .i64 1] rfl rfl hn.out rfl hb.out (by simp [Value.oneCell']) (by omega) (by decide) ?_); (intro v6 w6 h6))
    go_ret
    exact ⟨v6, rfl, h6.out.1⟩
set_option maxHeartbeats 8000000 in
set_option maxRecDepth 100000 in
theorem made_calls (c : Cf) (hc : CfOk c) (N : Nat) (hN : 1 ≤ N ∧ N ≤ 12) (mem cost : Nat → Int) (htd : ∀ i, i < N → 1 ≤ mem i ∧ mem i ≤ 1048576 ∧ 1 ≤ cost i ∧ cost i ≤ 1048576) (A : Option Addr) (cl : Nat) (T : Nat → Prop) (w : World)
    (hr : RowAt T w 29 2 (.slice A N cl) N (flat encTd (tdsF N mem cost))) :
    Calls Tryz.prog 7 #[.agg (encCf c), .slice A N cl] w fun en w' => ∃ g K, en = .returned (.pointer (some ⟨g, 0, none⟩)) ∧ w.heap.size ≤ g ∧ EngAt (fun k => w.heap.size ≤ k) w' g K (eng0 c N mem cost) ∧ Below w.heap.size w w' := by
  have HC := Aside0.mk hc
  have HTD := Aside0.mk htd
  obtain ⟨w0, hw0⟩ : ∃ w0, w0 = w.alloc (.cells (encCf c) 26) := ⟨_, rfl⟩
  have HB0 := Aside0.mk (show Below w.heap.size w w0 from hw0 ▸ below_alloc (Below.refl _ w) _)
  have HX0 := Aside0.mk (show w0.heap[w.heap.size]? = some (.cells (encCf c) 26 (0, 0)) from hw0 ▸ heap_alloc_new w _)
  have HW0 := Aside0.mk hw0
  have HR := Aside0.mk (hr.keep (Keep.of_below HB0.out))
  clear hc htd hr hw0
  unfold encCf at HW0 HX0 ⊢
  go_enter Tryz.func7, Tryz.ntmps7
  go_upto_region 1 with (fail)
  rw [← HW0.out]
  obtain ⟨B, hB⟩ : ∃ B, w.heap.size = B := ⟨_, rfl⟩
  rw [hB] at HX0 ⊢
  have e0 := (blk_cell HX0.out 0).trans (show _ = some (Value.int .i64 c.budget) from rfl)
  have e1 := (blk_cell HX0.out 1).trans (show _ = some (Value.int .i64 c.slots) from rfl)
  have e2 := (blk_cell HX0.out 2).trans (show _ = some (Value.int .i64 c.active) from rfl)
  have e3 := (blk_cell HX0.out 3).trans (show _ = some (Value.int .i64 c.queue) from rfl)
  have e4 := (blk_cell HX0.out 4).trans (show _ = some (Value.int .i64 c.tries) from rfl)
  have e5 := (blk_cell HX0.out 5).trans (show _ = some (Value.int .i64 c.preempts) from rfl)
  have e6 := (blk_cell HX0.out 6).trans (show _ = some (Value.int .i64 c.timeout) from rfl)
  have e7 := (blk_cell HX0.out 7).trans (show _ = some (Value.int .i64 c.backoff) from rfl)
  have e8 := (blk_cell HX0.out 8).trans (show _ = some (Value.int .i64 c.most) from rfl)
  have e9 := (blk_cell HX0.out 9).trans (show _ = some (Value.int .i64 c.quantum) from rfl)
  have HBB := Aside0.mk hB
  clear hB
  go_wp2_with (go_at_call 17; go_loud (refine (ENew_calls c HC.out N hN mem cost HTD.out A cl T _ HR.out).mono ?_); rintro en w1 ⟨g, K, rfl, hg, hat, hb⟩; have HG := Aside0.mk (And.intro hg (And.intro hat hb)); clear hg hat hb)
  go_ret
  have hle := HB0.out.size
  refine ⟨g, K, rfl, ?_, ?_, ?_⟩
  · rw [HBB.out]; have := HG.out.1; rw [HBB.out] at hle; omega
  · exact HG.out.2.1.mono fun k _ hk => Nat.le_trans hle hk
  · exact below_step HB0.out HG.out.2.2
end Go.Proofs.YtbpoapfkeinjnaaGreatDoor.Ld
namespace Go.Proofs.YtbpoapfkeinjnaaGreatDoor.Ld
open Go.RowKit Go.Proofs.YtbpoapfkeinjnaaGreatDoorW.PrintWords Go.Proofs.YtbpoapfkeinjnaaGreatDoorW.PrintLast Go.Proofs.YtbpoapfkeinjnaaGreatDoorW.PrintMore
set_option linter.unusedVariables false
set_option linter.unusedSimpArgs false
set_option linter.unnecessarySimpa false
structure Vars (bm : Nat) (w : World) : Prop where
  tz : TzTab w
  vd : Verd bm w
  lt : 1 < w.heap.size
theorem Vars.glb {bm : Nat} {w : World} (h : Vars bm w) : Glb bm (fun k => w.heap.size ≤ k) w where
  tz := h.tz
  vd := h.vd
  lt := h.lt
  n0 := fun e => by have := h.lt; have e' : w.heap.size ≤ 0 := e; omega
  n1 := fun e => by have := h.lt; have e' : w.heap.size ≤ 1 := e; omega
  nb := fun e => by have := h.vd.lt.2; have e' : w.heap.size ≤ bm := e; omega
theorem Vars.below {bm : Nat} {w w' : World} (h : Vars bm w) (hb : Below w.heap.size w w') : Vars bm w' := ⟨(h.glb.below hb).tz, (h.glb.below hb).vd, Nat.lt_of_lt_of_le h.lt hb.size⟩
theorem Glb.off {bm : Nat} {S T : Nat → Prop} {w w' : World} (h : Glb bm S w) (hc : Chg T w w') (h0 : ¬ T 0) (h1 : ¬ T 1) (hb : ¬ T bm) : Glb bm S w' where
  tz := fun j hj => cell_keep (h.tz j hj) (hc.block 1 h.lt h1)
  vd := ⟨cell_keep h.vd.cell (hc.block 0 h.vd.lt.1 h0), ⟨Nat.lt_of_lt_of_le h.vd.lt.1 hc.size, Nat.lt_of_lt_of_le h.vd.lt.2 hc.size⟩, fun w2 hw2 => h.vd.look w2 (hw2.trans (hc.block bm h.vd.lt.2 hb))⟩
  lt := Nat.lt_of_lt_of_le h.lt hc.size
  n0 := h.n0
  n1 := h.n1
  nb := h.nb
structure LW (bm : Nat) (w0 : World) (g : Nat) (K : EK) (e : Eng) (S : Nat → Prop) (w : World) : Prop where
  at_ : EngAt S w g K e
  glb : Glb bm S w
  lt : ∀ k, S k → k < w.heap.size
  ge : ∀ k, S k → w0.heap.size ≤ k
  bel : Below w0.heap.size w0 w
  vars : Vars bm w0
section
variable {bm : Nat} {w0 w w' : World} {g : Nat} {K K' : EK} {e e' : Eng} {S : Nat → Prop}
theorem LW.start (hv : Vars bm w0) {w2 : World} (h2 : Below w0.heap.size w0 w2) (hat : EngAt (fun k => w2.heap.size ≤ k) w g K e) (hb : Below w2.heap.size w2 w) : LW bm w0 g K e (fun k => w2.heap.size ≤ k ∧ k < w.heap.size) w where
  at_ := hat.mono fun k h1 h2 => ⟨h2, h1⟩
  glb := by
    have h := (hv.below h2).glb.below hb
    exact ⟨h.tz, h.vd, h.lt, fun e => h.n0 e.1, fun e => h.n1 e.1, fun e => h.nb e.1⟩
  lt := fun k hk => hk.2
  ge := fun k hk => Nat.le_trans h2.size hk.1
  bel := below_step h2 hb
  vars := hv
theorem LW.below (h : LW bm w0 g K e S w) (hb : Below w.heap.size w w') : LW bm w0 g K e S w' where
  at_ := h.at_.keep hb
  glb := h.glb.below hb
  lt := fun k hk => Nat.lt_of_lt_of_le (h.lt k hk) hb.size
  ge := h.ge
  bel := below_step h.bel hb
  vars := h.vars
def nextS (S : Nat → Prop) (w w' : World) : Nat → Prop := fun k => up S w w' k ∧ k < w'.heap.size
theorem LW.step (h : LW bm w0 g K e S w) (t : To S w g K' e' w') : LW bm w0 g K' e' (nextS S w w') w' where
  at_ := t.1.mono fun k h1 h2 => ⟨h2, h1⟩
  glb := by
    have k := h.glb.to t.2
    exact ⟨k.tz, k.vd, k.lt, fun e => k.n0 e.1, fun e => k.n1 e.1, fun e => k.nb e.1⟩
  lt := fun k hk => hk.2
  ge := fun k hk => by
    rcases hk.1 with h1 | h1
    · exact h.ge k h1
    · exact Nat.le_trans h.bel.size h1.1
  bel := Chg.to_below h.bel t.2 h.ge
  vars := h.vars
theorem LW.own (h : LW bm w0 g K e S w) (t : To S w g K' e' w') {b : Nat} (hb : b < w.heap.size) (hn : ¬ S b) : ¬ nextS S w w' b ∧ w'.heap[b]? = w.heap[b]? := by
  refine ⟨fun hk => ?_, t.2.block b hb hn⟩
  rcases hk.1 with h1 | h1
  · exact hn h1
  · omega
theorem LW.off {T : Nat → Prop} (h : LW bm w0 g K e S w) (hc : Chg T w w') (hT : ∀ k, T k → w0.heap.size ≤ k) (hd : ∀ k, S k → ¬ T k) : LW bm w0 g K e S w' where
  at_ := h.at_.off hc hd
  glb := h.glb.off hc (fun e => by have := hT 0 e; have := h.vars.lt; omega) (fun e => by have := hT 1 e; have := h.vars.lt; omega) (fun e => by have := hT bm e; have := h.vars.vd.lt.2; omega)
  lt := fun k hk => Nat.lt_of_lt_of_le (h.lt k hk) hc.size
  ge := h.ge
  bel := Chg.to_below h.bel hc hT
  vars := h.vars
end
end Go.Proofs.YtbpoapfkeinjnaaGreatDoor.Ld
namespace Go.Proofs.YtbpoapfkeinjnaaGreatDoor.Ld
open Go.ChangeShapes Go.WideShapes Go.ChangeAt Go.RowKit Go.WideElems Go.Maps
set_option linter.unusedVariables false
set_option linter.unusedSimpArgs false
def laidV : List (String × DataW Unit) := [("math/bits.deBruijn64tab", Rows.laid_math_bits_deBruijn64tab), ("millwright/engine.verdicts", Rows.laid_millwright_engine_verdicts)]
theorem gTab : Tryz.prog.globalNamed "math/bits.deBruijn64tab" = some 1 := by kernel_rfl
theorem gVer : Tryz.prog.globalNamed "millwright/engine.verdicts" = some 0 := by kernel_rfl
theorem tTab : (Tryz.prog.globals[1]?).map (·.type) = some 223 := by kernel_rfl
theorem tVer : (Tryz.prog.globals[0]?).map (·.type) = some 148 := by kernel_rfl
theorem door_met (os : Os) (args : Array Value) : laidMetH Tryz.prog laidV ((World.doorLaid Tryz.prog 34 os).forCall (fun _ _ => 0) ⟨#[], args, []⟩).memory :=
  laidMetH_of_parts3 (fuel := 8) (laidMet_of_run' 8 (by kernel_rfl) (by kernel_rfl)) (by kernel_rfl) (by kernel_rfl)
theorem tab_lits : (Rows.laid_math_bits_deBruijn64tab : DataW Unit) = .agg (Lib.deBruijn64tab.map fun k : Nat => .lit (.int .u8 (k : Int))) := by kernel_rfl
set_option maxRecDepth 100000 in
theorem vars_of {W : World} (h : laidMetH Tryz.prog laidV W) : ∃ bm, Vars bm W := by
  rw [MakeChecks.laidMetH_plain _ _ _ (by kernel_rfl)] at h
  obtain ⟨ps, ⟨g0, t0, cs0, f0, p0, q0, hg0, ht0, hv0, hd0, ⟨g1, t1, cs1, f1, p1, q1, hg1, ht1, hv1, hd1, _, _⟩, _⟩, _, _⟩ := h
  obtain rfl := Option.some.inj (gTab.symm.trans hg0)
  obtain rfl := Option.some.inj (gVer.symm.trans hg1)
  obtain rfl := Option.some.inj (tTab.symm.trans ht0)
  obtain rfl := Option.some.inj (tVer.symm.trans ht1)
  have c5 : Tryz.prog.cellsOf 5 = 1 := by kernel_rfl
  have htab : TzTab W := by
    obtain ⟨xs, m, rfl, hx, hlen, hn, hel⟩ := DataW.trod_array Tryz.underlying223 hd0
    simp only [Prod.mk.injEq] at hx
    have hxs : xs.map (·.1) = Lib.deBruijn64tab.map fun k : Nat => (.lit (.int .u8 (k : Int)) : DataW Unit) := by
      have h1 := tab_lits.symm.trans hx.1
      injection h1 with h1
      exact h1.symm
    intro j hj
    have hj64 : j < 64 := hj
    have h1 := hel j hj64
    rw [c5, Nat.mul_one] at h1
    have hjx : j < xs.length := by omega
    rw [List.getElem?_eq_getElem hjx] at h1
    obtain ⟨k, e1, e2, _⟩ := DataW.trod_int Tryz.underlying5 h1
    have h3 : (xs.map (·.1))[j]? = some (xs[j]).1 := by rw [List.getElem?_map, List.getElem?_eq_getElem hjx]; rfl
    rw [hxs, List.getElem?_map, List.getElem?_eq_getElem hj, e2] at h3
    have hk : k = ((Lib.deBruijn64tab[j] : Nat) : Int) := by
      simp only [Option.map_some, Option.some.injEq, DataW.lit.injEq, Lit.int.injEq, true_and] at h3
      exact h3.symm
    have h4 : cs0.toList[j]? = some (.int .u8 k) := by
      have := congrArg (·[0]?) e1
      simpa [List.getElem?_take, List.getElem?_drop] using this
    have h5 := World.var?_cell hg0 hv0 j
    rw [← Array.getElem?_toList, h4, hk] at h5
    rw [h5, List.getD_eq_getElem?_getD, List.getElem?_eq_getElem hj]
    rfl
  rcases open_map Tryz.underlying148 hd1 with ⟨_, hx⟩ | ⟨bm, es, clock, m, rfl, hcs, hb, _, F, hx⟩
  · simp [Rows.laid_millwright_engine_verdicts] at hx
  simp only [Prod.mk.injEq] at hx
  have hcell : W.cell? ⟨0, 0, none⟩ = some (.map (some bm)) := by
    have := World.var?_cell hg1 hv1 0
    rw [Array.eq_one_of_toList hcs] at this
    simpa using this
  have hown := World.ownsMap_of_fit (R := plainElem Tryz.prog 3) hb F (fun x _ z hz => elemAt_plainElem_int Tryz.underlying3 hz)
  rw [← hx.1] at hown
  refine ⟨bm, htab, ⟨hcell, ⟨World.block_lt_of_cell? W _ hcell, lt_of_block hb⟩, fun w' hw' k h5 h7 => ?_⟩, World.block_lt_of_cell? W ⟨1, 0, none⟩ (htab 0 (by decide))⟩
  obtain ⟨es', clock', hb', F', hle, hDD⟩ := hown
  have hown' : w'.ownsMap Tryz.prog 3 (plainElem Tryz.prog 3) bm es.size (Rows.laid_millwright_engine_verdicts : DataW Unit) := ⟨es', clock', by rw [hw']; exact hb', F', hle, hDD⟩
  have zero : (zeroValue 3).run Tryz.prog w' = .ok (.int .i64 0) w' := by kernel_rfl
  have key : ∀ (k : Int) (n : Int), (Lit.int .i64 k).wf = true → (Rows.laid_millwright_engine_verdicts : DataW Unit).atKey (.int .i64 k) (.lit (.int .i64 0)) = .lit (.int .i64 n) → (Instr.lookup 148 (.map (some bm)) (.int .i64 k) false).run Tryz.prog w' = .ok (.int .i64 n) w' := fun k n hwf hn => by
    obtain ⟨c', hrun, hat, _⟩ := hown'.lookup_int (Go.Maps.int_keyed Tryz.underlying3) Tryz.underlying148 Tryz.underlying3 zero (Go.Maps.keyOf_int_mk Tryz.underlying3 hwf)
    have h6 := hat.symm.trans hn
    injection h6 with h6
    injection h6 with _ h6
    rw [hrun, h6]
  rcases (show k = 5 ∨ k = 6 ∨ k = 7 by omega) with h | h | h
  · rw [h]; exact key 5 2 (by decide) rfl
  · rw [h]; exact key 6 3 (by decide) rfl
  · rw [h]; exact key 7 4 (by decide) rfl
end Go.Proofs.YtbpoapfkeinjnaaGreatDoor.Ld
