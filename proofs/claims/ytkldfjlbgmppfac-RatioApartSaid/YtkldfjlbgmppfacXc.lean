import Derived.Test.YtkldfjlbgmppfacXb
import Derived.Test.YtkldfjlbgmppfacWa
namespace Go.Proofs.Ytkldfjlbgmppfac.Fl
open Go.RowKit Go.Proofs.YtkldfjlbgmppfacW.PrintWords Go.Proofs.YtkldfjlbgmppfacW.PrintLast Go.Proofs.YtkldfjlbgmppfacW.PrintMore
set_option linter.unusedVariables false
set_option linter.unusedSimpArgs false
attribute [local go_sem] max2_int min2_int max_two min_two unary_neg_float

/-- The answer: the difference, as bits, of one that none is above and of one that is above none. -/
def ApartIs (xs : List (Int × Int)) (re im : Nat) : Prop :=
  ∃ p q, p ∈ xs ∧ q ∈ xs ∧ cSumBits .sub .f64 (W p.1) (W p.2) (W q.1) (W q.2) = some (re, im) ∧ (∀ i : Int, 0 ≤ i → i < xs.length → notAbove (rdc xs i) p) ∧ ∀ i : Int, 0 ≤ i → i < xs.length → notAbove q (rdc xs i)
def ApartPost (xs : List (Int × Int)) (w : World) (e : Ending) (w' : World) : Prop := ∃ re im, e = .returned (.complex .f64 re im) ∧ ApartIs xs re im ∧ Drawn0 w w'

set_option maxHeartbeats 8000000 in
set_option maxRecDepth 100000 in
theorem Apart_calls (A : Option Addr) (c : Nat) (xs : List (Int × Int)) (w : World) (hr : ReadsOf cxv (0, 0) w A xs.length xs) (hne : 0 < xs.length) (hm : xs.length ≤ 1000) (hok : ∀ p ∈ xs, Ok p) :
    Calls Try.prog 7 #[.slice A xs.length c] w (ApartPost xs w) := by
  have h0 : ¬ (xs.length : Int) = 0 := by omega
  have hd : ∀ p q : Int × Int, p ∈ xs → q ∈ xs → ∃ re im, cSumBits .sub .f64 (W p.1) (W p.2) (W q.1) (W q.2) = some (re, im) := by
    intro p q h1 h2
    have o1 := hok _ h1
    have o2 := hok _ h2
    obtain ⟨x, e1, _⟩ := is_sub (W_is p.1 (by have := o1.1; omega)) (W_is q.1 (by have := o2.1; omega)) (by have := o1.1; have := o2.1; omega)
    obtain ⟨y, e2, _⟩ := is_sub (W_is p.2 (by have := o1.2; omega)) (W_is q.2 (by have := o2.2; omega)) (by have := o1.2; have := o2.2; omega)
    exact ⟨x, y, by simp only [cSumBits, e1, e2, Option.bind_some]⟩
  have HD := Aside0.mk hd
  clear hd
  go_enter Try.func7, Try.ntmps7
  go_wp2_with (first
    | (go_at_call 14; (with_reducible refine (Max_calls A c xs _ ?hr hne hm hok).mono ?_); (case hr => exact hr); rintro e w1 ⟨p, hp, rfl, hpa, ⟨n1, rfl⟩⟩; have HP := Aside0.mk hpa; clear hpa)
    | (go_at_call 15; (with_reducible refine (Min_calls A c xs _ ?hr hne hm hok).mono ?_); (case hr => exact hr); rintro e w1 ⟨q, hq, rfl, hqa, ⟨n2, rfl⟩⟩; have HQ := Aside0.mk hqa; clear hqa
       obtain ⟨re, im, hs⟩ := HD.out p q hp hq
       have hsub := fun w => run_complex_sum (P := Try.prog) w .sub (.inr rfl) 25 .f64 (W p.1) (W p.2) (W q.1) (W q.2) re im hs
       have HS := Aside0.mk hs; clear hs))
  go_ret
  exact ⟨re, im, rfl, ⟨p, q, hp, hq, HS.out, HP.out, HQ.out⟩, by repeat (first | exact Drawn0.refl _ | apply Drawn0.step)⟩
set_option maxHeartbeats 8000000 in
set_option maxRecDepth 100000 in
theorem Apart0_calls (A : Option Addr) (c : Nat) (w : World) : Calls Try.prog 7 #[.slice A 0 c] w fun e w' => e = .returned (.complex .f64 0 0) ∧ Drawn0 w w' := by
  go_enter Try.func7, Try.ntmps7
  go_wp2
  go_ret
  exact ⟨rfl, by repeat (first | exact Drawn0.refl _ | apply Drawn0.step)⟩
end Go.Proofs.Ytkldfjlbgmppfac.Fl
