/- LifeBounds: a task misses no more often than it may, is stopped no more often than it may; what is final stays so; what is refused changes nothing. No condition. -/
import Derived.Test.YtkldfjlbgmppfabMLifeBoundsx5
import Derived.Test.YtkldfjlbgmppfabLfLifeBounds
import Derived.Test.YtkldfjlbgmppfabPlain
namespace Go.Proofs.Ytkldfjlbgmppfab.Pure
open Go.RowKit Go.Proofs.Ytkldfjlbgmppfab.MLifeBounds Go.Proofs.Ytkldfjlbgmppfab.Plain Go.Proofs.YtkldfjlbgmppfabW.PrintWords Go.Proofs.YtkldfjlbgmppfabW.PrintLast Go.Proofs.YtkldfjlbgmppfabW.PrintMore

theorem shown_any (k : Nat) (hk : 90 ≤ k) : millwrightlaw09_shown.f k = some true := at_rounds millwrightlaw09_shown.mono hk (by decide +kernel)

/-- What holds of a life at any time. -/
def Inv (s e m p t r : Int) : Prop := (0 ≤ s ∧ s ≤ 7) ∧ 0 ≤ m ∧ 0 ≤ p ∧ m ≤ t ∧ p ≤ r ∧ m + p ≤ e ∧ (s = 2 → m + p < e) ∧ (s ≤ 4 → m < t)

/-- What a step does to it. -/
def Bnd (s e m p t r : Int) (x : Int × Int × Int × Int × Int × Int × Int) : Prop :=
  Inv x.2.1 x.2.2.1 x.2.2.2.1 x.2.2.2.2.1 t r ∧ x.2.2.2.2.2.1 = t ∧ x.2.2.2.2.2.2 = r ∧ e ≤ x.2.2.1 ∧ x.2.2.1 ≤ e + 1 ∧ (x.1 = 0 ∨ x.2.1 = s ∧ x.2.2.1 = e ∧ x.2.2.2.1 = m ∧ x.2.2.2.2.1 = p) ∧ (s < 5 ∨ x.1 = 8)
theorem Bnd.ite {s e m p t r : Int} {c : Prop} [Decidable c] {x y : Int × Int × Int × Int × Int × Int × Int} (h : c → Bnd s e m p t r x) (g : ¬ c → Bnd s e m p t r y) : Bnd s e m p t r (if c then x else y) := by
  by_cases hc : c
  · rw [if_pos hc]; exact h hc
  · rw [if_neg hc]; exact g hc
theorem Bnd.mk {s e m p t r a s' e' m' p' t' r' : Int}
    (h : ((0 ≤ s' ∧ s' ≤ 7) ∧ 0 ≤ m' ∧ 0 ≤ p' ∧ m' ≤ t ∧ p' ≤ r ∧ m' + p' ≤ e' ∧ (s' = 2 → m' + p' < e') ∧ (s' ≤ 4 → m' < t)) ∧ t' = t ∧ r' = r ∧ e ≤ e' ∧ e' ≤ e + 1 ∧ (a = 0 ∨ s' = s ∧ e' = e ∧ m' = m ∧ p' = p) ∧ (s < 5 ∨ a = 8)) :
    Bnd s e m p t r (a, s', e', m', p', t', r') := h

theorem act_bnd (a s e m p t r : Int) (h : Inv s e m p t r) (he : 0 ≤ e ∧ e ≤ 300) : Bnd s e m p t r (act a s e m p t r) := by
  obtain ⟨h0, h1, h2, h3, h4, h5, h6, h7⟩ := h
  have hwe : wrap64 (e + 1) = e + 1 := by unfold wrap64; omega
  have hwm : wrap64 (m + 1) = m + 1 := by unfold wrap64; omega
  have hwp : wrap64 (p + 1) = p + 1 := by unfold wrap64; omega
  unfold act
  rw [hwe, hwm, hwp]
  repeat' (refine Bnd.ite (fun _ => ?_) (fun _ => ?_))
  all_goals first | exact Bnd.mk (by omega) | exact Bnd.mk (by split <;> omega)

theorem loop (a0 a1 T R : Int) (hT : Aside0 (mx a0 1 = T)) (hR : Aside0 (mx a1 0 = R)) (l : List Int) : ∀ (d k i : Nat) (s e m p : Int), Inv s e m p T R → (0 ≤ e ∧ e ≤ i) → i + d = 300 → d * 3 + 40 ≤ k →
    millwrightlaw09_LifeBounds.l0 k a0 a1 l true (i : Int) s e m p T R = some true := by
  intro d
  induction d with
  | zero =>
    intro k i s e m p h he hi hk
    obtain ⟨k, rfl⟩ : ∃ m, k = m + 1 := ⟨k - 1, by omega⟩
    have hd : decide ((i : Int) < 300) = false := by simp; omega
    simp only [millwrightlaw09_LifeBounds.l0]
    rw [hd]
    obtain ⟨k, rfl⟩ : ∃ m, k = m + 1 := ⟨k - 1, by omega⟩
    have hj : millwrightlaw09_LifeBounds.j1 (k + 1) a0 a1 l true (i : Int) false s e m p T R = some true := by
      simp only [millwrightlaw09_LifeBounds.j1]
      rw [if_neg (by decide)]
    rw [hj]
    simp
  | succ d ih =>
    intro k i s e m p h he hi hk
    obtain ⟨k, rfl⟩ : ∃ m, k = m + 1 := ⟨k - 1, by omega⟩
    simp only [millwrightlaw09_LifeBounds.l0]
    obtain ⟨k, rfl⟩ : ∃ m, k = m + 1 := ⟨k - 1, by omega⟩
    by_cases c : (i : Int) < (l.length : Int)
    · have hd : decide ((i : Int) < 300) = true := by simp; omega
      rw [if_pos c, hd]
      simp only [millwrightlaw09_LifeBounds.j1]
      rw [if_pos True.intro]
      simp only [life_Life_State.f, life_Life_Epoch.f, life_Life_Missed.f, life_Life_Stopped.f, life_Life_Final.f, Option.bind_some]
      obtain ⟨k, rfl⟩ : ∃ m, k = m + 1 := ⟨k - 1, by omega⟩
      have hk2 : d * 3 + 40 ≤ k := by omega
      have hi2 : i + 1 + d = 300 := by omega
      have he300 : 0 ≤ e ∧ e ≤ 300 := by clear h; omega
      have hdoes := does_f (k + 1) (by omega) (wrap64 (Int.tmod (rd l i) 11)) s e m p T R h.1
      rw [if_pos (show (0 : Int) ≤ (i : Int) by omega)]
      rw [if_pos c]
      rw [hdoes]
      rw [Option.bind_some]
      have hx := act_bnd (wrap64 (Int.tmod (rd l i) 11)) s e m p T R h he300
      generalize act (wrap64 (Int.tmod (rd l i) 11)) s e m p T R = x at hx ⊢
      obtain ⟨x0, s', e', m', p', t', r'⟩ := x
      obtain ⟨hI, ht, hr, hb1, hb2, hch, hfin⟩ := hx
      simp only at hI ht hr hb1 hb2 hch hfin
      rw [ht, hr]
      have hII := hI
      obtain ⟨h0, h1, h2, h3, h4, h5, h6, h7⟩ := hI
      clear h6 h7
      have Hch := Aside0.mk hch
      have Hfin := Aside0.mk hfin
      clear hch hfin h
      have hee : 0 ≤ e' ∧ e' ≤ ((i + 1 : Nat) : Int) := by omega
      have hw : wrap64 ((i : Int) + 1) = ((i + 1 : Nat) : Int) := wrap_next (show i < 300 by omega) (by omega)
      have hrest : millwrightlaw09_LifeBounds.l0 k a0 a1 l true (wrap64 ((i : Int) + 1)) s' e' m' p' T R = some true := by
        rw [hw]
        exact ih k (i + 1) s' e' m' p' hII hee hi2 hk2
      clear hw
      have hj2 : ∀ b : Bool, b = false → millwrightlaw09_LifeBounds.j2 (k + 1) a0 a1 l true (i : Int) b s' e' m' p' T R s e m p s' e' m' p' = some true := by
        intro b hb
        have w1 : wrap64 (m' + p') = m' + p' := by unfold wrap64; omega
        have w2 : wrap64 (e + 1) = e + 1 := by unfold wrap64; omega
        simp only [millwrightlaw09_LifeBounds.j2]
        rw [hT.out, hR.out, if_neg (by rw [hb]; decide), if_neg (by omega), if_neg (by omega), if_neg (by omega), if_neg (by omega), w1, w2, if_neg (by omega), if_neg (by omega), if_neg (by omega)]
        exact hrest
      by_cases hx0 : x0 = 0
      · have hs : decide (s ≥ 5) = false := by
          rcases Hfin.out with hf | hf
          · simp; omega
          · omega
        rw [if_pos hx0, hs, if_neg (by decide)]
        exact hj2 false rfl
      · have hsame : s' = s ∧ e' = e ∧ m' = m ∧ p' = p := by
          rcases Hch.out with hc | hc
          · exact absurd hc hx0
          · exact hc
        have hne : (!(s == s') || (!(e == e') || (!(m == m') || (!(p == p'))))) = false := by
          obtain ⟨q1, q2, q3, q4⟩ := hsame
          simp [q1, q2, q3, q4]
        rw [if_neg hx0, hne, if_neg (by decide)]
        by_cases hs : s ≥ 5
        · have h8 : x0 = 8 := by
            rcases Hfin.out with hf | hf
            · omega
            · exact hf
          rw [decide_eq_true hs, if_pos rfl, if_pos h8]
          exact hj2 false rfl
        · rw [decide_eq_false hs, if_neg (by decide)]
          exact hj2 false rfl
    · rw [if_neg c]
      simp only [millwrightlaw09_LifeBounds.j1]
      rw [if_neg (by decide)]

/-- A life stays within its bounds. -/
theorem LifeBounds : millwrightlaw09_LifeBounds.Pure := by
  intro a0 a1 l _ _ _ _ _
  obtain ⟨k, hk⟩ : ∃ k : Nat, k = 2000 := ⟨_, rfl⟩
  refine ⟨k, ?_⟩
  unfold millwrightlaw09_LifeBounds.f
  rw [shown_any k (by omega), Option.bind_some]
  simp only [life_New.f, Option.bind_some]
  have h0 : 1 ≤ mx a0 1 := by unfold mx; split <;> omega
  have h1 : 0 ≤ mx a1 0 := by unfold mx; split <;> omega
  exact loop a0 a1 _ _ ⟨rfl⟩ ⟨rfl⟩ l 300 k 0 0 0 0 0 ⟨by omega, by omega, by omega, by omega, by omega, by omega, by omega, by omega⟩ (by omega) (by omega) (by omega)

end Go.Proofs.Ytkldfjlbgmppfab.Pure
