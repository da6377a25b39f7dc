/- The engine of the yard and what it leans on, part 12. -/
import Derived.Test.YtbpoapfkeinjnaaGreatDoorK11
import Derived.Shelf.Spec.TrailingZeros
namespace Go.Proofs.YtbpoapfkeinjnaaGreatDoor.Ld
open Go.RowKit Go.Proofs.YtbpoapfkeinjnaaGreatDoorW.PrintWords Go.Proofs.YtbpoapfkeinjnaaGreatDoorW.PrintLast Go.Proofs.YtbpoapfkeinjnaaGreatDoorW.PrintMore
set_option linter.unusedVariables false
set_option linter.unusedSimpArgs false
attribute [local go_sem] max2_int min2_int max_two min_two
structure GrInv (G : Gr) : Prop where
  N64 : G.N ≤ 64
  lt : ∀ j, j < G.N → G.T j < 18446744073709551616
  bit : ∀ j, j < G.N → ∀ k, (G.T j).testBit k = true ↔ (k : Int) ∈ G.L false j
  mem : ∀ b j, j < G.N → ∀ x, x ∈ G.L b j → ∃ y : Nat, x = (y : Int) ∧ y < G.N
  back : ∀ j, j < G.N → ∀ k, k < G.N → ((j : Int) ∈ G.L true k ↔ (k : Int) ∈ G.L false j)
  dup : ∀ b j, j < G.N → (G.L b j).Nodup
set_option maxHeartbeats 8000000 in
set_option maxRecDepth 100000 in
theorem GHas_calls (S : Nat → Prop) (g : Nat) (G : Gr) (x y : Nat) (w : World) (H : GrAt S w g G) (hv : GrInv G) (hx : x < G.N) (hy : y < G.N) :
    Calls Tryz.prog 64 #[.pointer (some ⟨g, 0, none⟩), .int .i64 (x : Int), .int .i64 (y : Int)] w fun e w' => e = .returned (.bool ((G.T x).testBit y)) ∧ Below w.heap.size w w' := by
  have HH := Aside0.mk H
  have HV := Aside0.mk hv
  have hN := hv.N64
  have hlt := hv.lt x hx
  have HAL := Aside0.mk (show ∀ i, i < 2 → ∃ z : Nat, ([(x : Int), (y : Int)] : List Int).getD i 0 = (z : Int) ∧ z < G.N from fun i hi => by
    rcases i with _ | _ | i
    · exact ⟨x, rfl, hx⟩
    · exact ⟨y, rfl, hy⟩
    · omega)
  have q1 : (0 ≤ (x : Int)) = True := eq_true (by omega)
  have q2 : ((x : Int) < (G.N : Int)) = True := eq_true (by omega)
  have q3 : y < 64 := by omega
  obtain ⟨T, hT⟩ : ∃ T, G.T x = T := ⟨_, rfl⟩
  rw [hT] at hlt ⊢
  have HT := Aside0.mk hT
  clear H hv hT
  go_enter Tryz.func64, Tryz.ntmps64
  go_wp2_with (first
    | (go_at_call 67; go_loud (refine (there_calls S [(x : Int), (y : Int)] 2 2 g G _ _ (HH.out.keep (Keep.of_below (below_alloc (Below.refl _ w) _))) (by omega) rfl (by omega) HAL.out (ri_lit w [(x : Int), (y : Int)] (by simp))).mono ?_); rintro e w2 ⟨rfl, hd⟩; have HD := Aside0.mk (below_step (below_alloc (Below.refl _ w) _) hd); obtain ⟨vs, vt, rv, HP⟩ := HH.out.keep (Keep.of_below HD.out); obtain ⟨k, c, hA, cx, fx⟩ := HP.mask x hx; rw [HT.out] at cx; have c0 := (blk_cell HP.blk 2).trans rfl; rw [hA] at c0; clear hd hA HP)
    | (go_at_call 112; (with_reducible refine (has_calls' T y _ hlt q3).mono ?_); rintro e w3 ⟨rfl, hd⟩; have HD3 := Aside0.mk hd; clear hd))
  go_ret
  exact ⟨rfl, below_step HD.out HD3.out.below⟩
end Go.Proofs.YtbpoapfkeinjnaaGreatDoor.Ld
namespace Go.Proofs.YtbpoapfkeinjnaaGreatDoor.Ld
open Go.RowKit Go.Proofs.YtbpoapfkeinjnaaGreatDoorW.PrintWords Go.Proofs.YtbpoapfkeinjnaaGreatDoorW.PrintLast Go.Proofs.YtbpoapfkeinjnaaGreatDoorW.PrintMore
set_option linter.unusedVariables false
set_option linter.unusedSimpArgs false
attribute [local go_sem] max2_int min2_int max_two min_two
def TzTab (w : World) : Prop := Go.Proofs.TabAt 1 Lib.deBruijn64tab w
set_option maxHeartbeats 8000000 in
set_option maxRecDepth 100000 in
theorem tz_core (x k idx : Nat) (w : World) (hx0 : ((x : Int) == 0) = false)
    (key : IntKind.u64.wrap (bits BinOp.and IntKind.u64 (x : Int) (IntKind.u64.wrap (-(x : Int))) * 285870213051353865) / 288230376151711744 = (idx : Int))
    (hi : idx < 64) (hk : k < 64) (hcell : w.cell? ⟨1, idx, none⟩ = some (.int .u8 k)) :
    Calls Tryz.prog 135 #[.int .u64 x] w fun e w' => e = .returned (.int .i64 k) ∧ w' = w := by
  go_enter Tryz.func135, Tryz.ntmps135
  go_wp2_with (simp only [key])
  go_ret
  exact ⟨rfl, rfl⟩
theorem ctz_bit (x : Nat) (h0 : x ≠ 0) (h : x < 2 ^ 64) : x.testBit (Lib.ctz 64 x) = true := by
  obtain ⟨m, hm, _⟩ := Lib.ctzFrom_spec 64 x (by omega) h
  unfold Lib.ctz
  rw [if_neg h0]
  generalize Lib.ctzFrom 64 x = k at hm
  subst hm
  rw [Nat.testBit_two_pow_mul]
  simp
theorem tz_calls (x : Nat) (hx : x < 18446744073709551616) (h0 : x ≠ 0) (w : World) (hT : TzTab w) :
    Calls Tryz.prog 135 #[.int .u64 x] w fun e w' => ∃ k : Nat, e = .returned (.int .i64 (k : Int)) ∧ k < 64 ∧ x.testBit k = true ∧ w' = w := by
  obtain ⟨hlow, hk⟩ := Lib.lowest_bit 64 x h0 hx
  obtain ⟨hi, htab⟩ := Lib.deBruijn64_at _ hk
  have hcell := hT _ hi
  rw [htab] at hcell
  exact (tz_core x _ _ w (by simp; omega) (Go.Proofs.tz64_key x _ hx h0 hlow) hi hk hcell).mono fun e w' h => ⟨_, h.1, hk, ctz_bit x h0 hx, h.2⟩
end Go.Proofs.YtbpoapfkeinjnaaGreatDoor.Ld
namespace Go.Proofs.YtbpoapfkeinjnaaGreatDoor.Ld
open Go.RowKit Go.Proofs.YtbpoapfkeinjnaaGreatDoorW.PrintWords Go.Proofs.YtbpoapfkeinjnaaGreatDoorW.PrintLast Go.Proofs.YtbpoapfkeinjnaaGreatDoorW.PrintMore
set_option linter.unusedVariables false
set_option linter.unusedSimpArgs false
attribute [local go_sem] max2_int min2_int max_two min_two
theorem andNot_nat (a b : Nat) (ha : a < 2 ^ 64) (hb : b < 2 ^ 64) : ∃ c : Nat, bits .andNot .u64 (a : Int) (b : Int) = (c : Int) ∧ c < 2 ^ 64 ∧ ∀ i, c.testBit i = (a.testBit i && !b.testBit i) := by
  have ha' : a % 2 ^ 64 = a := Nat.mod_eq_of_lt ha
  have hb' : b % 2 ^ 64 = b := Nat.mod_eq_of_lt hb
  refine ⟨(BitVec.ofNat 64 a &&& ~~~ BitVec.ofNat 64 b).toNat, ?_, BitVec.isLt _, fun i => ?_⟩
  · have h : (BitVec.ofNat 64 a &&& ~~~ BitVec.ofNat 64 b).toNat < 2 ^ 64 := BitVec.isLt _
    show IntKind.u64.wrap (((BitVec.ofInt 64 (a : Int) &&& ~~~ BitVec.ofInt 64 (b : Int)).toNat : Nat) : Int) = _
    rw [BitVec.ofInt_natCast, BitVec.ofInt_natCast]
    exact wraps64 _ (Int.natCast_nonneg _) (by exact_mod_cast h)
  · rw [BitVec.toNat_and, Nat.testBit_and, BitVec.toNat_ofNat, ha']
    by_cases hi : i < 64
    · rw [BitVec.testBit_toNat, BitVec.getLsbD_not, BitVec.getLsbD_ofNat]
      simp [hi]
    · have h1 : a.testBit i = false := Nat.testBit_lt_two_pow (Nat.lt_of_lt_of_le ha (Nat.pow_le_pow_right (by decide) (by omega)))
      rw [h1]; rfl
theorem or_true {a b : Bool} : (a || b) = true ↔ a = true ∨ b = true := by simp
theorem and_true {a b : Bool} : (a && b) = true ↔ a = true ∧ b = true := by simp
structure Reached (G : Gr) (x R : Nat) : Prop where
  lt : R < 2 ^ 64
  self : R.testBit x = true
  bd : ∀ j, R.testBit j = true → j < G.N
  closed : ∀ j, R.testBit j = true → ∀ k, (G.T j).testBit k = true → R.testBit k = true
  least : ∀ P : Nat → Prop, P x → (∀ j, j < G.N → P j → ∀ k, (G.T j).testBit k = true → P k) → ∀ j, R.testBit j = true → P j
structure RInv (G : Gr) (x s u : Nat) : Prop where
  lts : s < 2 ^ 64
  ltu : u < 2 ^ 64
  self : s.testBit x = true ∨ u.testBit x = true
  bd : ∀ j, (s.testBit j = true ∨ u.testBit j = true) → j < G.N
  apart : ∀ j, s.testBit j = true → u.testBit j = false
  closed : ∀ j, s.testBit j = true → ∀ k, (G.T j).testBit k = true → s.testBit k = true ∨ u.testBit k = true
  least : ∀ P : Nat → Prop, P x → (∀ j, j < G.N → P j → ∀ k, (G.T j).testBit k = true → P k) → ∀ j, (s.testBit j = true ∨ u.testBit j = true) → P j
def bitsN (s : Nat) : Nat := sumTo (fun i => if s.testBit i then 1 else 0) 64
theorem bitsN_le (s : Nat) : bitsN s ≤ 64 := by
  have := sumTo_bd (f := fun i => if s.testBit i then 1 else 0) (n := 64) (B := 1) (fun i _ => by split <;> omega)
  unfold bitsN
  omega
theorem RInv.start {G : Gr} (hv : GrInv G) {x : Nat} (hx : x < G.N) : RInv G x 0 (2 ^ x) where
  lts := by decide
  ltu := Nat.pow_lt_pow_right (by decide) (by have := hv.N64; omega)
  self := .inr (by rw [Nat.testBit_two_pow_self])
  bd := fun j h => by
    rcases h with h | h
    · simp at h
    · rw [Nat.testBit_two_pow] at h; have := of_decide_eq_true h; omega
  apart := fun j h => by simp at h
  closed := fun j h => by simp at h
  least := fun P hP _ j h => by
    rcases h with h | h
    · simp at h
    · rw [Nat.testBit_two_pow] at h; have := of_decide_eq_true h; subst this; exact hP
theorem RInv.step {G : Gr} (hv : GrInv G) {x s u k u2 : Nat} (h : RInv G x s u) (hk : u.testBit k = true) (h2 : u2 < 2 ^ 64) (hb : ∀ i, u2.testBit i = ((u ||| G.T k).testBit i && !(s ||| 2 ^ k).testBit i)) :
    RInv G x (s ||| 2 ^ k) u2 ∧ bitsN (s ||| 2 ^ k) = bitsN s + 1 := by
  have hkN := h.bd k (.inr hk)
  have hN := hv.N64
  have hs2 : ∀ i, (s ||| 2 ^ k).testBit i = (s.testBit i || decide (k = i)) := fun i => by rw [Nat.testBit_or, Nat.testBit_two_pow]
  have hu2 : ∀ i, u2.testBit i = ((u.testBit i || (G.T k).testBit i) && !(s.testBit i || decide (k = i))) := fun i => by rw [hb i, hs2 i, Nat.testBit_or]
  have hin : ∀ i, (u.testBit i = true ∨ (G.T k).testBit i = true) → (s ||| 2 ^ k).testBit i = true ∨ u2.testBit i = true := fun i hi => by
    rw [hs2, hu2]
    rcases hi with hi | hi <;> rw [hi] <;> by_cases e1 : s.testBit i = true <;> by_cases e2 : k = i <;> simp [e1, e2]
  refine ⟨⟨Nat.or_lt_two_pow h.lts (Nat.pow_lt_pow_right (by decide) (by omega)), h2, ?_, fun j hj => ?_, fun j hj => ?_, fun j hj m hm => ?_, fun P hP hc j hj => ?_⟩, ?_⟩
  · rcases h.self with e | e
    · exact .inl (by rw [hs2, e]; rfl)
    · exact hin x (.inl e)
  · rcases hj with hj | hj
    · rw [hs2] at hj
      rcases or_true.1 hj with e | e
      · exact h.bd j (.inl e)
      · have := of_decide_eq_true e; omega
    · rw [hu2] at hj
      rcases or_true.1 (and_true.1 hj).1 with e | e
      · exact h.bd j (.inr e)
      · obtain ⟨y, h3, h4⟩ := hv.mem false k hkN _ ((hv.bit k hkN j).1 e)
        omega
  · rw [hu2]
    rw [hs2] at hj
    rw [hj]; simp
  · rw [hs2] at hj
    rcases or_true.1 hj with e | e
    · rcases h.closed j e m hm with e2 | e2
      · exact .inl (by rw [hs2, e2]; rfl)
      · exact hin m (.inl e2)
    · have := of_decide_eq_true e
      subst this
      exact hin m (.inr hm)
  · rcases hj with hj | hj
    · rw [hs2] at hj
      rcases or_true.1 hj with e | e
      · exact h.least P hP hc j (.inl e)
      · have := of_decide_eq_true e; subst this; exact h.least P hP hc k (.inr hk)
    · rw [hu2] at hj
      rcases or_true.1 (and_true.1 hj).1 with e | e
      · exact h.least P hP hc j (.inr e)
      · exact hc k hkN (h.least P hP hc k (.inr hk)) j e
  · unfold bitsN
    refine sumTo_one (k := k) (by omega) ?_ fun i hi hne => ?_
    · have e1 : s.testBit k = false := by
        cases e : s.testBit k
        · rfl
        · have := h.apart k e; rw [hk] at this; cases this
      simp only [hs2, e1]
      simp
    · simp only [hs2]
      have : decide (k = i) = false := decide_eq_false (fun e => hne e.symm)
      rw [this, Bool.or_false]
theorem RInv.done {G : Gr} {x s : Nat} (h : RInv G x s 0) : Reached G x s where
  lt := h.lts
  self := by rcases h.self with e | e; exact e; simp at e
  bd := fun j hj => h.bd j (.inl hj)
  closed := fun j hj k hk => by rcases h.closed j hj k hk with e | e; exact e; simp at e
  least := fun P hP hc j hj => h.least P hP hc j (.inl hj)
set_option maxHeartbeats 8000000 in
set_option maxRecDepth 100000 in
theorem reach_calls (S : Nat → Prop) (g : Nat) (G : Gr) (x : Nat) (w : World) (H : GrAt S w g G) (hv : GrInv G) (hx : x < G.N) (hT : TzTab w) :
    Calls Tryz.prog 134 #[.pointer (some ⟨g, 0, none⟩), .int .i64 (x : Int)] w fun e w' => ∃ R : Nat, e = .returned (.int .u64 (R : Int)) ∧ Reached G x R ∧ Drawn0 w w' := by
  have HH := Aside0.mk H
  have HV := Aside0.mk hv
  have HT := Aside0.mk hT
  have hN := hv.N64
  have hx64 : x < 64 := by omega
  have HST := Aside0.mk (RInv.start hv hx)
  have hp : 2 ^ x < 2 ^ 64 := Nat.pow_lt_pow_right (by decide) hx64
  obtain ⟨p, hpx⟩ : ∃ p : Nat, 2 ^ x = p := ⟨_, rfl⟩
  have hw : IntKind.u64.wrap (2 ^ x) = (p : Int) := by
    have h1 : ((2 ^ x : Nat) : Int) = (2 : Int) ^ x := by simp
    rw [← h1, hpx]
    exact wraps64 _ (Int.natCast_nonneg _) (by rw [← hpx]; exact_mod_cast hp)
  have HPX := Aside0.mk hpx
  clear H hv hT hp hpx
  go_enter Tryz.func134, Tryz.ntmps134
  go_wp2
  go_cut [5, 6] (fun v5 v6 wc => v5 = .int .u64 0 ∧ v6 = .int .u64 (p : Int) ∧ Aside0 (Drawn0 w wc))
  case first =>
    go_region
    all_goals
      go_wp2
      go_meet
      exact ⟨rfl, rfl, ⟨by repeat (first | exact Drawn0.refl _ | apply Drawn0.step)⟩⟩
  case rest =>
  obtain ⟨rfl, rfl, hdc⟩ := hcut
  clear hw
  go_wp2
  go_loopg [5, 6] 65 (fun kq v5 v6 wr => ∃ s u : Nat, v5 = .int .u64 (s : Int) ∧ v6 = .int .u64 (u : Int) ∧ Aside0 (kq + bitsN s = 65 ∧ RInv G x s u ∧ Drawn0 w wr))
  case atStart => exact ⟨0, p, rfl, rfl, ⟨by rfl, by rw [← HPX.out]; exact HST.out, drawnT hdc.out (by repeat (first | exact Drawn0.refl _ | apply Drawn0.step))⟩⟩
  case round =>
    obtain ⟨s, u, rfl, rfl, hA⟩ := hrel
    obtain ⟨hk, hinv, hd⟩ := hA.out
    have HI := Aside0.mk hinv
    have HD := Aside0.mk hd
    have HK := Aside0.mk hk
    have hlu := hinv.ltu
    have hls := hinv.lts
    clear hA hinv hd hk hdc
    by_cases hu : u = 0
    · subst hu
      go_wp2
      go_ret
      exact ⟨s, rfl, HI.out.done, HD.out⟩
    · have HU := Aside0.mk hu
      have hub : ((u : Int) != 0) = true := by rw [bne_iff_ne]; omega
      clear hu
      go_upto_region 4 with (go_at_call 135; go_loud (refine (tz_calls u hlu HU.out _ ?q1).mono ?_); (case q1 => exact fun j hj => pw_cell_below HD.out.below (HT.out j hj)); rintro e w2 ⟨k, rfl, hk64, hkb, rfl⟩; have HKB := Aside0.mk hkb; clear hkb)
      have hkN := HI.out.bd k (.inr HKB.out)
      have htl := HV.out.lt k hkN
      obtain ⟨s2, hs2⟩ : ∃ s2, s ||| 2 ^ k = s2 := ⟨_, rfl⟩
      obtain ⟨t, ht⟩ : ∃ t, G.T k = t := ⟨_, rfl⟩
      rw [ht] at htl
      have hst : ∀ u2, u2 < 2 ^ 64 → (∀ i, u2.testBit i = ((u ||| t).testBit i && !s2.testBit i)) → RInv G x s2 u2 ∧ bitsN s2 = bitsN s + 1 := by
        intro u2 h1 h2
        rw [← hs2, ← ht] at h2
        rw [← hs2]
        exact HI.out.step HV.out HKB.out h1 h2
      have HTK := Aside0.mk ht
      have HS2 := Aside0.mk hs2
      have ho := or_nat u t hlu htl
      have hol : u ||| t < 2 ^ 64 := Nat.or_lt_two_pow hlu htl
      have hsl : s2 < 2 ^ 64 := by rw [← hs2]; exact Nat.or_lt_two_pow hls (Nat.pow_lt_pow_right (by decide) hk64)
      obtain ⟨c, hc, hcl, hcb⟩ := andNot_nat (u ||| t) s2 hol hsl
      have HN := Aside0.mk (hst c hcl hcb)
      have HOL := Aside0.mk hsl
      generalize u ||| t = o at ho hc
      clear hst ht hs2 hol hsl hcl hcb
      go_upto_region 5 with (go_at_call 150; go_loud (refine (with_calls s k _ hls hk64).mono ?_); rintro e w3 ⟨rfl, hd⟩; rw [HS2.out]; have HD3 := Aside0.mk (drawnT HD.out hd); clear hd)
      obtain ⟨vs, vt, rv, HP⟩ := HH.out.keep (Keep.of_below HD3.out.below)
      obtain ⟨b, c5, hA, cx, fx⟩ := HP.mask k hkN
      rw [HTK.out] at cx
      have c0 := (blk_cell HP.blk 2).trans rfl
      rw [hA] at c0
      have q1 : (0 ≤ (k : Int)) = True := eq_true (by omega)
      have q2 : ((k : Int) < (G.N : Int)) = True := eq_true (by omega)
      clear HP hA hlu hls htl
      go_wp2
      go_roundg (gk - 1)
      case measure => have := HK.out; have := bitsN_le s2; have := HN.out.2; omega
      case rel =>
        refine ⟨s2, c, rfl, ?_, ⟨?_, HN.out.1, drawnT HD3.out (by repeat (first | exact Drawn0.refl _ | apply Drawn0.step))⟩⟩
        · rfl
        · have := HK.out; have := bitsN_le s2; have := HN.out.2; omega
end Go.Proofs.YtbpoapfkeinjnaaGreatDoor.Ld
namespace Go.Proofs.YtbpoapfkeinjnaaGreatDoor.Ld
open Go.RowKit Go.Proofs.YtbpoapfkeinjnaaGreatDoorW.PrintWords Go.Proofs.YtbpoapfkeinjnaaGreatDoorW.PrintLast Go.Proofs.YtbpoapfkeinjnaaGreatDoorW.PrintMore
set_option linter.unusedVariables false
set_option linter.unusedSimpArgs false
attribute [local go_sem] max2_int min2_int max_two min_two
theorem low_clear (r k m : Nat) (h : r = 2 ^ k * (2 * m + 1)) (i : Nat) : (r &&& (r - 1)).testBit i = (r.testBit i && !decide (k = i)) := by
  have hp : 0 < 2 ^ k := Nat.two_pow_pos k
  have e1 : r - 1 = 2 ^ k * (2 * m) + (2 ^ k - 1) := by rw [h, Nat.mul_add, Nat.mul_one]; omega
  have b0 : ∀ j, (2 * m + 1).testBit (j + 1) = (2 * m).testBit (j + 1) := fun j => by rw [Nat.testBit_succ, Nat.testBit_succ]; congr 1; omega
  rw [Nat.testBit_and, e1, Nat.testBit_two_pow_mul_add _ (by omega), h, Nat.testBit_two_pow_mul]
  by_cases hi : i < k
  · have : decide (k ≤ i) = false := decide_eq_false (by omega)
    rw [this]; simp
  · rw [if_neg hi]
    have : decide (k ≤ i) = true := decide_eq_true (by omega)
    rw [this, Bool.true_and]
    rcases hj : i - k with _ | j
    · have : decide (k = i) = true := decide_eq_true (by omega)
      rw [this]; simp
    · have : decide (k = i) = false := decide_eq_false (by omega)
      rw [this, b0 j]; simp
theorem tz_form (x : Nat) (hx : x < 18446744073709551616) (h0 : x ≠ 0) (w : World) (hT : TzTab w) :
    Calls Tryz.prog 135 #[.int .u64 x] w fun e w' => ∃ k m : Nat, e = .returned (.int .i64 (k : Int)) ∧ k < 64 ∧ x.testBit k = true ∧ x = 2 ^ k * (2 * m + 1) ∧ w' = w := by
  obtain ⟨hlow, hk⟩ := Lib.lowest_bit 64 x h0 hx
  obtain ⟨hi, htab⟩ := Lib.deBruijn64_at _ hk
  have hcell := hT _ hi
  rw [htab] at hcell
  obtain ⟨m, hm, _⟩ := Lib.ctzFrom_spec 64 x (by omega) hx
  have hc : Lib.ctz 64 x = Lib.ctzFrom 64 x := by unfold Lib.ctz; rw [if_neg h0]
  exact (tz_core x _ _ w (by simp; omega) (Go.Proofs.tz64_key x _ hx h0 hlow) hi hk hcell).mono fun e w' h => ⟨_, m, h.1, hk, ctz_bit x h0 hx, by rw [hc]; exact hm, h.2⟩
set_option maxHeartbeats 8000000 in
set_option maxRecDepth 100000 in
theorem Reaches_calls (S : Nat → Prop) (g : Nat) (G : Gr) (x y : Nat) (w : World) (H : GrAt S w g G) (hv : GrInv G) (hx : x < G.N) (hy : y < G.N) (hT : TzTab w) :
    Calls Tryz.prog 103 #[.pointer (some ⟨g, 0, none⟩), .int .i64 (x : Int), .int .i64 (y : Int)] w fun e w' => (∃ R, Reached G x R ∧ e = .returned (.bool (R.testBit y))) ∧ Below w.heap.size w w' := by
  have HH := Aside0.mk H
  have HV := Aside0.mk hv
  have HT := Aside0.mk hT
  have hN := hv.N64
  have HAL := Aside0.mk (show ∀ i, i < 2 → ∃ z : Nat, ([(x : Int), (y : Int)] : List Int).getD i 0 = (z : Int) ∧ z < G.N from fun i hi => by
    rcases i with _ | _ | i
    · exact ⟨x, rfl, hx⟩
    · exact ⟨y, rfl, hy⟩
    · omega)
  have q3 : y < 64 := by omega
  clear H hv hT
  go_enter Tryz.func103, Tryz.ntmps103
  go_wp2_with (first
    | (go_at_call 67; go_loud (refine (there_calls S [(x : Int), (y : Int)] 2 2 g G _ _ (HH.out.keep (Keep.of_below (below_alloc (Below.refl _ w) _))) (by omega) rfl (by omega) HAL.out (ri_lit w [(x : Int), (y : Int)] (by simp))).mono ?_); rintro e w2 ⟨rfl, hd⟩; have HD := Aside0.mk (below_step (below_alloc (Below.refl _ w) _) hd); clear hd)
    | (go_at_call 134; go_loud (refine (reach_calls S g G x _ (HH.out.keep (Keep.of_below HD.out)) HV.out hx ?q1).mono ?_); (case q1 => exact fun j hj => pw_cell_below HD.out (HT.out j hj)); rintro e w3 ⟨R, rfl, hr, hd⟩; have HR := Aside0.mk hr; have HD3 := Aside0.mk (below_step HD.out hd.below); have hlr := hr.lt; clear hd hr)
    | (go_at_call 112; go_loud (refine (has_calls' R y _ hlr q3).mono ?_); rintro e w4 ⟨rfl, hd⟩; have HD4 := Aside0.mk (below_step HD3.out hd.below); clear hd))
  go_ret
  exact ⟨⟨R, HR.out, rfl⟩, HD4.out⟩
set_option maxHeartbeats 8000000 in
set_option maxRecDepth 100000 in
theorem Reach_calls (S : Nat → Prop) (g : Nat) (G : Gr) (x : Nat) (w : World) (H : GrAt S w g G) (hv : GrInv G) (hx : x < G.N) (hT : TzTab w) :
    Calls Tryz.prog 93 #[.pointer (some ⟨g, 0, none⟩), .int .i64 (x : Int)] w fun e w' => ∃ v ids R, Reached G x R ∧ e = .returned v ∧ RowAt (fun k => w.heap.size ≤ k) w' 3 1 v ids.length (ints (nats ids)) ∧ (∀ j, j ∈ ids ↔ R.testBit j = true) ∧ ids.Nodup ∧ Below w.heap.size w w' := by
  have HH := Aside0.mk H
  have HV := Aside0.mk hv
  have HT := Aside0.mk hT
  have hN := hv.N64
  have HAL := Aside0.mk (show ∀ i, i < 1 → ∃ y : Nat, ([(x : Int)] : List Int).getD i 0 = (y : Int) ∧ y < G.N from fun i hi => ⟨x, by rw [show i = 0 by omega]; rfl, hx⟩)
  clear H hv hT
  go_enter Tryz.func93, Tryz.ntmps93
  go_upto_block 0 with (first
    | (go_at_call 67; go_loud (refine (there_calls S [(x : Int)] 1 1 g G _ _ (HH.out.keep (Keep.of_below (below_alloc (Below.refl _ w) _))) (by omega) rfl (by omega) HAL.out (ri_lit w [(x : Int)] (by simp))).mono ?_); rintro e w2 ⟨rfl, hd⟩; have HD := Aside0.mk (below_step (below_alloc (Below.refl _ w) _) hd); clear hd)
    | (go_at_call 134; go_loud (refine (reach_calls S g G x _ (HH.out.keep (Keep.of_below HD.out)) HV.out hx ?q1).mono ?_); (case q1 => exact fun j hj => pw_cell_below HD.out (HT.out j hj)); rintro e w3 ⟨R, rfl, hr, hd⟩; have HR := Aside0.mk hr; have HD3 := Aside0.mk (below_step HD.out hd.below); have hlr := hr.lt; clear hd hr))
  go_wp2
  go_loopg [4, 5] 65 (fun kq v4 v5 wr => ∃ r : Nat, v5 = .int .u64 (r : Int) ∧ Aside0 (r < 2 ^ 64 ∧ (∀ j, r.testBit j = true → R.testBit j = true) ∧ bitsN r + 1 ≤ kq ∧ Below w.heap.size w wr ∧ ∃ ids, RowAt (fun k => w.heap.size ≤ k) wr 3 1 v4 ids.length (ints (nats ids)) ∧ ids.length + bitsN r = bitsN R ∧ ids.Nodup ∧ ∀ j, j ∈ ids ↔ R.testBit j = true ∧ r.testBit j = false))
  case atStart => exact ⟨R, rfl, ⟨hlr, fun j h => h, by have := bitsN_le R; omega, HD3.out, [], RowAt.nil _ _ _ _, by simp, List.nodup_nil, fun j => by cases h : R.testBit j <;> simp⟩⟩
  case round =>
    obtain ⟨r, rfl, hA⟩ := hrel
    obtain ⟨hlr2, hsub, hk, hb, ids, hrow, hcnt, hdup, hmem⟩ := hA.out
    have HB := Aside0.mk hb
    have HROW := Aside0.mk hrow
    have HM := Aside0.mk hmem
    have HDU := Aside0.mk hdup
    have HCN := Aside0.mk hcnt
    have HK := Aside0.mk hk
    have HSUB := Aside0.mk hsub
    clear hsub hA hk hb hrow hmem hdup hcnt
    by_cases hr0 : r = 0
    · subst hr0
      go_wp2
      go_ret
      refine ⟨_, ids, R, HR.out, rfl, HROW.out, fun j => ?_, HDU.out, HB.out⟩
      rw [HM.out j]
      simp
    · have HR0 := Aside0.mk hr0
      have hub : ((r : Int) != 0) = true := by rw [bne_iff_ne]; omega
      have hge : 1 ≤ (r : Int) := by omega
      clear hr0
      go_upto_region 5 with (first
        | (go_at_call 135; go_loud (refine (tz_form r hlr2 HR0.out _ ?q1).mono ?_); (case q1 => exact fun j hj => pw_cell_below HB.out (HT.out j hj)); rintro e w4 ⟨k, m, rfl, hk64, hkb, hkm, rfl⟩; have HKB := Aside0.mk hkb; have HKM := Aside0.mk hkm; have HB4 := Aside0.mk HB.out; have HROW4 := Aside0.mk HROW.out; clear hkb hkm)
        | (at_builtin; go_loud (refine print_append_of (w0 := w4) (Value.int .i64) 0 rfl (.tmp 20) (.tmp 23) 22 3 (.int .i64 0) 8 rfl Tryz.underlying22 info3 rfl (by decide) u4 (nats ids) (k : Int) rfl rfl rfl ?h1 (Below.refl _ _) (Nat.zero_le _) ?h2 ?_); (case h1 => rw [nats_len]; exact HROW4.out.own); (case h2 => rw [nats_len]; have h1 := HCN.out; have h3 := bitsN_le R; omega); (intro v6 w6 ho6 hb6 hg6 hat6; have HO := Aside0.mk ho6; have HG6 := Aside0.mk hg6; have HAT := Aside0.mk hat6; clear ho6 hb6 hg6 hat6)))
      obtain ⟨r1, hr1⟩ : ∃ r1, r - 1 = r1 := ⟨_, rfl⟩
      have hw : IntKind.u64.wrap ((r : Int) - 1) = (r1 : Int) := by rw [show (r : Int) - 1 = (r1 : Int) by omega]; exact wraps64 _ (by omega) (by omega)
      have hw2 : (r : Int) - 1 = (r1 : Int) := by omega
      have ha := and_nat r r1 hlr2 (by omega)
      have hcl : r &&& r1 < 2 ^ 64 := Nat.and_lt_two_pow _ (by omega)
      have hcb := low_clear r k m HKM.out
      rw [hr1] at hcb
      obtain ⟨c, hc⟩ : ∃ c, r &&& r1 = c := ⟨_, rfl⟩
      rw [hc] at ha hcl hcb
      have HCB := Aside0.mk hcb
      have hcnt : bitsN r = bitsN c + 1 := by
        unfold bitsN
        refine sumTo_one (k := k) (by omega) ?_ fun i hi hne => ?_
        · simp only [hcb, HKB.out]; simp
        · simp only [hcb]
          have : decide (k = i) = false := decide_eq_false (fun e => hne e.symm)
          rw [this]; simp
      have HC1 := Aside0.mk hcnt
      have HCL := Aside0.mk hcl
      clear hcb hcnt hcl hr1 hc
      go_wp2
      go_roundg (gk - 1)
      case measure => have := HK.out; have := HC1.out; omega
      case rel =>
        have hg := (Chg.refl (fun k => w.heap.size ≤ k) w4).grown HG6.out (fun k hk => HROW4.out.fp k hk)
        have ho := HO.out
        rw [nats_snoc, nats_len] at ho
        have s4 := HB4.out.size
        have hkR : R.testBit k = true ∧ k ∉ ids := ⟨HSUB.out k HKB.out, fun h => by have h1 := ((HM.out k).1 h).2; rw [HKB.out] at h1; cases h1⟩
        refine ⟨c, rfl, ⟨HCL.out, fun j h => HSUB.out j (by rw [HCB.out j] at h; exact (and_true.1 h).1), by have := HK.out; have := HC1.out; omega, Chg.to_below HB4.out hg (fun i hi => hi), ids ++ [k], (HROW4.out.grown ho HAT.out).mono (fun k _ hk => ?_), ?_, ?_, fun j => ?_⟩⟩
        · rcases hk with hk | hk
          · exact hk
          · omega
        · rw [List.length_append, List.length_singleton]; have := HCN.out; have := HC1.out; omega
        · rw [List.nodup_append]
          refine ⟨HDU.out, by simp, fun a ha b hb e => ?_⟩
          simp at hb
          subst hb
          subst e
          exact hkR.2 ha
        · rw [List.mem_append, HM.out j, HCB.out j, List.mem_singleton]
          by_cases e : j = k
          · subst e
            simp [hkR.1]
          · have : decide (k = j) = false := decide_eq_false (fun h => e h.symm)
            rw [this]; simp [e]
end Go.Proofs.YtbpoapfkeinjnaaGreatDoor.Ld
namespace Go.Proofs.YtbpoapfkeinjnaaGreatDoor.Ld
open Go.RowKit Go.Proofs.YtbpoapfkeinjnaaGreatDoorW.PrintWords Go.Proofs.YtbpoapfkeinjnaaGreatDoorW.PrintLast Go.Proofs.YtbpoapfkeinjnaaGreatDoorW.PrintMore
set_option linter.unusedVariables false
set_option linter.unusedSimpArgs false
attribute [local go_sem] max2_int min2_int max_two min_two
def grNew (n : Nat) : Gr := ⟨n, fun _ _ => [], fun _ => 0, 0⟩
theorem grNew_inv (n : Nat) (hn : n ≤ 64) : GrInv (grNew n) := ⟨hn, fun j _ => by show 0 < _; decide, fun j _ k => by simp [grNew], fun b j _ x h => by simp [grNew] at h, fun j _ k _ => by simp [grNew], fun b j _ => List.nodup_nil⟩
theorem info22 : (Tryz.prog.info? 22).map (fun i => (i.zero, i.size, i.bytes)) = some (some (.slice none 0 0), 1, 24) := by kernel_rfl
theorem info171 : (Tryz.prog.info? 171).map (fun i => (i.zero, i.size, i.bytes)) = some (some (.int .u64 0), 1, 8) := by kernel_rfl
theorem gr_row (w : World) (S : Nat → Prop) (n : Nat) (hn : n ≤ 64) (hS : S w.heap.size) : RowAt S (w.alloc (.cells (madeCells #[.slice none 0 0] n) 22)) 22 1 (.slice (some ⟨w.heap.size, 0, none⟩) n n) n (slRow n fun _ => .slice none 0 0) := by
  have h := own_made_of (enc := fun _ : Unit => Value.slice none 0 0) (d := ()) w 0 22 n (by omega) (by omega)
  have e : encs (fun _ : Unit => Value.slice none 0 0) (List.replicate n ()) = slRow n fun _ => .slice none 0 0 := by
    unfold slRow encs
    apply List.ext_getElem
    · simp
    · intro i h1 h2; simp
  rw [e] at h
  exact ⟨h, fun k hk => by cases hk; exact hS⟩
theorem gr_mask (w : World) (S : Nat → Prop) (n : Nat) (hn : n ≤ 64) (hS : S w.heap.size) : RowAt S (w.alloc (.cells (madeCells #[.int .u64 0] n) 171)) 171 1 (.slice (some ⟨w.heap.size, 0, none⟩) n n) n (maskRow n fun _ => 0) := by
  have h := own_made_of (enc := fun _ : Unit => Value.int .u64 0) (d := ()) w 0 171 n (by omega) (by omega)
  have e : encs (fun _ : Unit => Value.int .u64 0) (List.replicate n ()) = maskRow n fun _ => 0 := by
    unfold maskRow encs
    apply List.ext_getElem
    · simp
    · intro i h1 h2; simp
  rw [e] at h
  exact ⟨h, fun k hk => by cases hk; exact hS⟩
theorem gr_make (S : Nat → Prop) (W : World) (n a b g : Nat) (vt : Value) (hab : a ≠ b) (hblk : W.heap[g]? = some (.cells #[.slice (some ⟨a, 0, none⟩) n n, .slice (some ⟨b, 0, none⟩) n n, vt, .int .i64 0] 126 (0, 0))) (hg : S g)
    (ra : RowAt S W 22 1 (.slice (some ⟨a, 0, none⟩) n n) n (slRow n fun _ => .slice none 0 0)) (rb : RowAt S W 22 1 (.slice (some ⟨b, 0, none⟩) n n) n (slRow n fun _ => .slice none 0 0)) (rt : RowAt S W 171 1 vt n (maskRow n fun _ => 0)) : GrAt S W g (grNew n) :=
  ⟨fun c => if c then .slice (some ⟨b, 0, none⟩) n n else .slice (some ⟨a, 0, none⟩) n n, vt, fun _ _ => .slice none 0 0, hblk, fun c => (by cases c; exact ra; exact rb), fun k h1 h2 => by
    have e1 := Option.some.inj h1
    have e2 := Option.some.inj h2
    dsimp only at e1 e2
    exact hab (e1.trans e2.symm), rt, fun _ _ _ => RowAt.nil _ _ _ _, fun _ _ _ _ _ _ _ k h => (by cases h), hg⟩
theorem gr_born0 (w : World) (n : Nat) (hn : n ≤ 64) : GrAt (fun k => w.heap.size ≤ k) ((((w.alloc (.cells (madeCells #[.slice none 0 0] n) 22)).alloc (.cells (madeCells #[.slice none 0 0] n) 22)).alloc (.cells (madeCells #[.int .u64 0] n) 171)).alloc (.cells #[.slice (some ⟨w.heap.size, 0, none⟩) n n, .slice (some ⟨w.heap.size + 1, 0, none⟩) n n, .slice (some ⟨w.heap.size + 1 + 1, 0, none⟩) n n, .int .i64 0] 126)) (w.heap.size + 1 + 1 + 1) (grNew n) := by
  have e1 : (w.alloc (.cells (madeCells #[.slice none 0 0] n) 22)).heap.size = w.heap.size + 1 := by simp
  have e2 : ((w.alloc (.cells (madeCells #[.slice none 0 0] n) 22)).alloc (.cells (madeCells #[.slice none 0 0] n) 22)).heap.size = w.heap.size + 1 + 1 := by simp
  have e3 : (((w.alloc (.cells (madeCells #[.slice none 0 0] n) 22)).alloc (.cells (madeCells #[.slice none 0 0] n) 22)).alloc (.cells (madeCells #[.int .u64 0] n) 171)).heap.size = w.heap.size + 1 + 1 + 1 := by simp
  have ra := gr_row w (fun k => w.heap.size ≤ k) n hn (by simp <;> omega)
  have rb := gr_row (w.alloc (.cells (madeCells #[.slice none 0 0] n) 22)) (fun k => w.heap.size ≤ k) n hn (by simp <;> omega)
  rw [e1] at rb
  have rt := gr_mask ((w.alloc (.cells (madeCells #[.slice none 0 0] n) 22)).alloc (.cells (madeCells #[.slice none 0 0] n) 22)) (fun k => w.heap.size ≤ k) n hn (by simp <;> omega)
  rw [e2] at rt
  have hb := fun o => heap_alloc_new (((w.alloc (.cells (madeCells #[.slice none 0 0] n) 22)).alloc (.cells (madeCells #[.slice none 0 0] n) 22)).alloc (.cells (madeCells #[.int .u64 0] n) 171)) o
  rw [e3] at hb
  exact gr_make _ _ n (w.heap.size) (w.heap.size + 1) _ _ (by omega) (hb _) (by omega) (((ra.more _).more _).more _) ((rb.more _).more _) (rt.more _)
theorem gr_born1 (w : World) (n : Nat) (hn : n ≤ 64) : GrAt (fun k => w.heap.size ≤ k) ((((w.alloc (.cells (madeCells #[.slice none 0 0] n) 22)).alloc (.cells (madeCells #[.int .u64 0] n) 171)).alloc (.cells (madeCells #[.slice none 0 0] n) 22)).alloc (.cells #[.slice (some ⟨w.heap.size, 0, none⟩) n n, .slice (some ⟨w.heap.size + 1 + 1, 0, none⟩) n n, .slice (some ⟨w.heap.size + 1, 0, none⟩) n n, .int .i64 0] 126)) (w.heap.size + 1 + 1 + 1) (grNew n) := by
  have e1 : (w.alloc (.cells (madeCells #[.slice none 0 0] n) 22)).heap.size = w.heap.size + 1 := by simp
  have e2 : ((w.alloc (.cells (madeCells #[.slice none 0 0] n) 22)).alloc (.cells (madeCells #[.int .u64 0] n) 171)).heap.size = w.heap.size + 1 + 1 := by simp
  have e3 : (((w.alloc (.cells (madeCells #[.slice none 0 0] n) 22)).alloc (.cells (madeCells #[.int .u64 0] n) 171)).alloc (.cells (madeCells #[.slice none 0 0] n) 22)).heap.size = w.heap.size + 1 + 1 + 1 := by simp
  have ra := gr_row w (fun k => w.heap.size ≤ k) n hn (by simp <;> omega)
  have rb := gr_row ((w.alloc (.cells (madeCells #[.slice none 0 0] n) 22)).alloc (.cells (madeCells #[.int .u64 0] n) 171)) (fun k => w.heap.size ≤ k) n hn (by simp <;> omega)
  rw [e2] at rb
  have rt := gr_mask (w.alloc (.cells (madeCells #[.slice none 0 0] n) 22)) (fun k => w.heap.size ≤ k) n hn (by simp <;> omega)
  rw [e1] at rt
  have hb := fun o => heap_alloc_new (((w.alloc (.cells (madeCells #[.slice none 0 0] n) 22)).alloc (.cells (madeCells #[.int .u64 0] n) 171)).alloc (.cells (madeCells #[.slice none 0 0] n) 22)) o
  rw [e3] at hb
  exact gr_make _ _ n (w.heap.size) (w.heap.size + 1 + 1) _ _ (by omega) (hb _) (by omega) (((ra.more _).more _).more _) (rb.more _) ((rt.more _).more _)
theorem gr_born2 (w : World) (n : Nat) (hn : n ≤ 64) : GrAt (fun k => w.heap.size ≤ k) ((((w.alloc (.cells (madeCells #[.slice none 0 0] n) 22)).alloc (.cells (madeCells #[.slice none 0 0] n) 22)).alloc (.cells (madeCells #[.int .u64 0] n) 171)).alloc (.cells #[.slice (some ⟨w.heap.size + 1, 0, none⟩) n n, .slice (some ⟨w.heap.size, 0, none⟩) n n, .slice (some ⟨w.heap.size + 1 + 1, 0, none⟩) n n, .int .i64 0] 126)) (w.heap.size + 1 + 1 + 1) (grNew n) := by
  have e1 : (w.alloc (.cells (madeCells #[.slice none 0 0] n) 22)).heap.size = w.heap.size + 1 := by simp
  have e2 : ((w.alloc (.cells (madeCells #[.slice none 0 0] n) 22)).alloc (.cells (madeCells #[.slice none 0 0] n) 22)).heap.size = w.heap.size + 1 + 1 := by simp
  have e3 : (((w.alloc (.cells (madeCells #[.slice none 0 0] n) 22)).alloc (.cells (madeCells #[.slice none 0 0] n) 22)).alloc (.cells (madeCells #[.int .u64 0] n) 171)).heap.size = w.heap.size + 1 + 1 + 1 := by simp
  have ra := gr_row (w.alloc (.cells (madeCells #[.slice none 0 0] n) 22)) (fun k => w.heap.size ≤ k) n hn (by simp <;> omega)
  rw [e1] at ra
  have rb := gr_row w (fun k => w.heap.size ≤ k) n hn (by simp <;> omega)
  have rt := gr_mask ((w.alloc (.cells (madeCells #[.slice none 0 0] n) 22)).alloc (.cells (madeCells #[.slice none 0 0] n) 22)) (fun k => w.heap.size ≤ k) n hn (by simp <;> omega)
  rw [e2] at rt
  have hb := fun o => heap_alloc_new (((w.alloc (.cells (madeCells #[.slice none 0 0] n) 22)).alloc (.cells (madeCells #[.slice none 0 0] n) 22)).alloc (.cells (madeCells #[.int .u64 0] n) 171)) o
  rw [e3] at hb
  exact gr_make _ _ n (w.heap.size + 1) (w.heap.size) _ _ (by omega) (hb _) (by omega) ((ra.more _).more _) (((rb.more _).more _).more _) (rt.more _)
theorem gr_born3 (w : World) (n : Nat) (hn : n ≤ 64) : GrAt (fun k => w.heap.size ≤ k) ((((w.alloc (.cells (madeCells #[.int .u64 0] n) 171)).alloc (.cells (madeCells #[.slice none 0 0] n) 22)).alloc (.cells (madeCells #[.slice none 0 0] n) 22)).alloc (.cells #[.slice (some ⟨w.heap.size + 1, 0, none⟩) n n, .slice (some ⟨w.heap.size + 1 + 1, 0, none⟩) n n, .slice (some ⟨w.heap.size, 0, none⟩) n n, .int .i64 0] 126)) (w.heap.size + 1 + 1 + 1) (grNew n) := by
  have e1 : (w.alloc (.cells (madeCells #[.int .u64 0] n) 171)).heap.size = w.heap.size + 1 := by simp
  have e2 : ((w.alloc (.cells (madeCells #[.int .u64 0] n) 171)).alloc (.cells (madeCells #[.slice none 0 0] n) 22)).heap.size = w.heap.size + 1 + 1 := by simp
  have e3 : (((w.alloc (.cells (madeCells #[.int .u64 0] n) 171)).alloc (.cells (madeCells #[.slice none 0 0] n) 22)).alloc (.cells (madeCells #[.slice none 0 0] n) 22)).heap.size = w.heap.size + 1 + 1 + 1 := by simp
  have ra := gr_row (w.alloc (.cells (madeCells #[.int .u64 0] n) 171)) (fun k => w.heap.size ≤ k) n hn (by simp <;> omega)
  rw [e1] at ra
  have rb := gr_row ((w.alloc (.cells (madeCells #[.int .u64 0] n) 171)).alloc (.cells (madeCells #[.slice none 0 0] n) 22)) (fun k => w.heap.size ≤ k) n hn (by simp <;> omega)
  rw [e2] at rb
  have rt := gr_mask w (fun k => w.heap.size ≤ k) n hn (by simp <;> omega)
  have hb := fun o => heap_alloc_new (((w.alloc (.cells (madeCells #[.int .u64 0] n) 171)).alloc (.cells (madeCells #[.slice none 0 0] n) 22)).alloc (.cells (madeCells #[.slice none 0 0] n) 22)) o
  rw [e3] at hb
  exact gr_make _ _ n (w.heap.size + 1) (w.heap.size + 1 + 1) _ _ (by omega) (hb _) (by omega) ((ra.more _).more _) (rb.more _) (((rt.more _).more _).more _)
theorem gr_born4 (w : World) (n : Nat) (hn : n ≤ 64) : GrAt (fun k => w.heap.size ≤ k) ((((w.alloc (.cells (madeCells #[.slice none 0 0] n) 22)).alloc (.cells (madeCells #[.int .u64 0] n) 171)).alloc (.cells (madeCells #[.slice none 0 0] n) 22)).alloc (.cells #[.slice (some ⟨w.heap.size + 1 + 1, 0, none⟩) n n, .slice (some ⟨w.heap.size, 0, none⟩) n n, .slice (some ⟨w.heap.size + 1, 0, none⟩) n n, .int .i64 0] 126)) (w.heap.size + 1 + 1 + 1) (grNew n) := by
  have e1 : (w.alloc (.cells (madeCells #[.slice none 0 0] n) 22)).heap.size = w.heap.size + 1 := by simp
  have e2 : ((w.alloc (.cells (madeCells #[.slice none 0 0] n) 22)).alloc (.cells (madeCells #[.int .u64 0] n) 171)).heap.size = w.heap.size + 1 + 1 := by simp
  have e3 : (((w.alloc (.cells (madeCells #[.slice none 0 0] n) 22)).alloc (.cells (madeCells #[.int .u64 0] n) 171)).alloc (.cells (madeCells #[.slice none 0 0] n) 22)).heap.size = w.heap.size + 1 + 1 + 1 := by simp
  have ra := gr_row ((w.alloc (.cells (madeCells #[.slice none 0 0] n) 22)).alloc (.cells (madeCells #[.int .u64 0] n) 171)) (fun k => w.heap.size ≤ k) n hn (by simp <;> omega)
  rw [e2] at ra
  have rb := gr_row w (fun k => w.heap.size ≤ k) n hn (by simp <;> omega)
  have rt := gr_mask (w.alloc (.cells (madeCells #[.slice none 0 0] n) 22)) (fun k => w.heap.size ≤ k) n hn (by simp <;> omega)
  rw [e1] at rt
  have hb := fun o => heap_alloc_new (((w.alloc (.cells (madeCells #[.slice none 0 0] n) 22)).alloc (.cells (madeCells #[.int .u64 0] n) 171)).alloc (.cells (madeCells #[.slice none 0 0] n) 22)) o
  rw [e3] at hb
  exact gr_make _ _ n (w.heap.size + 1 + 1) (w.heap.size) _ _ (by omega) (hb _) (by omega) (ra.more _) (((rb.more _).more _).more _) ((rt.more _).more _)
theorem gr_born5 (w : World) (n : Nat) (hn : n ≤ 64) : GrAt (fun k => w.heap.size ≤ k) ((((w.alloc (.cells (madeCells #[.int .u64 0] n) 171)).alloc (.cells (madeCells #[.slice none 0 0] n) 22)).alloc (.cells (madeCells #[.slice none 0 0] n) 22)).alloc (.cells #[.slice (some ⟨w.heap.size + 1 + 1, 0, none⟩) n n, .slice (some ⟨w.heap.size + 1, 0, none⟩) n n, .slice (some ⟨w.heap.size, 0, none⟩) n n, .int .i64 0] 126)) (w.heap.size + 1 + 1 + 1) (grNew n) := by
  have e1 : (w.alloc (.cells (madeCells #[.int .u64 0] n) 171)).heap.size = w.heap.size + 1 := by simp
  have e2 : ((w.alloc (.cells (madeCells #[.int .u64 0] n) 171)).alloc (.cells (madeCells #[.slice none 0 0] n) 22)).heap.size = w.heap.size + 1 + 1 := by simp
  have e3 : (((w.alloc (.cells (madeCells #[.int .u64 0] n) 171)).alloc (.cells (madeCells #[.slice none 0 0] n) 22)).alloc (.cells (madeCells #[.slice none 0 0] n) 22)).heap.size = w.heap.size + 1 + 1 + 1 := by simp
  have ra := gr_row ((w.alloc (.cells (madeCells #[.int .u64 0] n) 171)).alloc (.cells (madeCells #[.slice none 0 0] n) 22)) (fun k => w.heap.size ≤ k) n hn (by simp <;> omega)
  rw [e2] at ra
  have rb := gr_row (w.alloc (.cells (madeCells #[.int .u64 0] n) 171)) (fun k => w.heap.size ≤ k) n hn (by simp <;> omega)
  rw [e1] at rb
  have rt := gr_mask w (fun k => w.heap.size ≤ k) n hn (by simp <;> omega)
  have hb := fun o => heap_alloc_new (((w.alloc (.cells (madeCells #[.int .u64 0] n) 171)).alloc (.cells (madeCells #[.slice none 0 0] n) 22)).alloc (.cells (madeCells #[.slice none 0 0] n) 22)) o
  rw [e3] at hb
  exact gr_make _ _ n (w.heap.size + 1 + 1) (w.heap.size + 1) _ _ (by omega) (hb _) (by omega) (ra.more _) ((rb.more _).more _) (((rt.more _).more _).more _)
set_option maxHeartbeats 8000000 in
set_option maxRecDepth 100000 in
theorem GNew_calls (n : Nat) (hn : n ≤ 64) (w : World) :
    Calls Tryz.prog 34 #[.int .i64 (n : Int)] w fun e w' => ∃ g : Nat, w.heap.size ≤ g ∧ e = .returned (.pointer (some ⟨g, 0, none⟩)) ∧ GrAt (fun k => w.heap.size ≤ k) w' g (grNew n) ∧ Below w.heap.size w w' := by
  have hM := print_make_of (P := Tryz.prog) 123 22 (.slice none 0 0) 24 Tryz.underlying123 info22 rfl (by decide) n (by omega)
  have hM2 := print_make_of (P := Tryz.prog) 124 171 (.int .u64 0) 8 Tryz.underlying124 info171 rfl (by decide) n (by omega)
  obtain ⟨X, hX⟩ : ∃ X : Int, (n : Int) = X := ⟨_, rfl⟩
  have h0 : 0 ≤ X := by omega
  have h8 : X ≤ 64 := by omega
  rw [hX] at hM hM2
  have HM := Aside0.mk hM
  have HM2 := Aside0.mk hM2
  have HX := Aside0.mk hX
  have HB0 := Aside0.mk (gr_born0 w n hn)
  have HB1 := Aside0.mk (gr_born1 w n hn)
  have HB2 := Aside0.mk (gr_born2 w n hn)
  have HB3 := Aside0.mk (gr_born3 w n hn)
  have HB4 := Aside0.mk (gr_born4 w n hn)
  have HB5 := Aside0.mk (gr_born5 w n hn)
  rw [hX]
  have HNn := Aside0.mk hn
  have h1 : ¬ X < 0 := by omega
  have h2 : ¬ 64 < X := by omega
  clear hn hX hM hM2
  go_enter Tryz.func34, Tryz.ntmps34
  go_upto_region 2 with (fail)
  have hM := HM.out
  have hM2 := HM2.out
  clear HM HM2
  go_region
  all_goals
    go_wp2
    go_ret
    refine ⟨_, (by omega : w.heap.size ≤ w.heap.size + 1 + 1 + 1), rfl, ?_, by repeat (first | exact Below.refl _ _ | apply below_alloc | apply below_drew1 | apply pw_below_drewN)⟩
    first
      | exact HB0.out.keep (fun k _ _ => rfl)
      | exact HB1.out.keep (fun k _ _ => rfl)
      | exact HB2.out.keep (fun k _ _ => rfl)
      | exact HB3.out.keep (fun k _ _ => rfl)
      | exact HB4.out.keep (fun k _ _ => rfl)
      | exact HB5.out.keep (fun k _ _ => rfl)
end Go.Proofs.YtbpoapfkeinjnaaGreatDoor.Ld
