/- The engine of the yard and what it leans on, part 13. -/
import Derived.Test.YtbpoapfkeinjnaaGreatDoorK12
namespace Go.Proofs.YtbpoapfkeinjnaaGreatDoor.Ld
open Go.RowKit Go.Proofs.YtbpoapfkeinjnaaGreatDoorW.PrintWords Go.Proofs.YtbpoapfkeinjnaaGreatDoorW.PrintLast Go.Proofs.YtbpoapfkeinjnaaGreatDoorW.PrintMore
set_option linter.unusedVariables false
set_option linter.unusedSimpArgs false
attribute [local go_sem] max2_int min2_int max_two min_two
set_option maxHeartbeats 8000000 in
set_option maxRecDepth 100000 in
theorem Double_calls (x n l : Int) (w : World) (hx0 : 0 ≤ x) (hx : x ≤ 1152921504606846976) (hl0 : 0 ≤ l) (hl : l ≤ 1152921504606846976) (hn0 : -1152921504606846976 ≤ n) (hn : n ≤ 1152921504606846976) :
    Calls Tryz.prog 86 #[.int .i64 x, .int .i64 n, .int .i64 l] w fun e w' => (∃ r : Int, 0 ≤ r ∧ r ≤ l ∧ (x ≤ r ∨ r = l) ∧ e = .returned (.int .i64 r)) ∧ Drawn0 w w' := by
  have h1 : ¬ x < 0 := by omega
  have h2 : ¬ l < 0 := by omega
  go_enter Tryz.func86, Tryz.ntmps86
  go_wp2
  have hk0 : ∃ k0 : Nat, n.toNat + 1 = k0 := ⟨_, rfl⟩
  obtain ⟨k0, hk0⟩ := hk0
  have HK0 := Aside0.mk hk0
  clear hk0
  go_loopg [0, 1] k0 (fun kq v0 v1 wr => ∃ a m : Int, v0 = .int .i64 a ∧ v1 = .int .i64 m ∧ Aside0 (m.toNat + 1 ≤ kq ∧ -1152921504606846976 ≤ m ∧ m ≤ 1152921504606846976 ∧ x ≤ a ∧ (a ≤ l ∨ a = x) ∧ Drawn0 w wr))
  case atStart => exact ⟨x, n, rfl, rfl, ⟨by have := HK0.out; omega, hn0, hn, Int.le_refl _, .inr rfl, by repeat (first | exact Drawn0.refl _ | apply Drawn0.step)⟩⟩
  case round =>
    obtain ⟨a, m, rfl, rfl, hA⟩ := hrel
    obtain ⟨hk, hm0, hm1, hxa, hal, hd⟩ := hA.out
    have HK := Aside0.mk hk
    have HAL := Aside0.mk hal
    have HD := Aside0.mk hd
    have ha1 : a ≤ 1152921504606846976 := by omega
    have ha0 : 0 ≤ a := by omega
    clear hA hk hal hd
    have hend : ¬ (0 < m ∧ 0 < a ∧ a < l) → (∃ r : Int, 0 ≤ r ∧ r ≤ l ∧ (x ≤ r ∨ r = l) ∧ (if l < a then l else a) = r) := by
      intro _
      by_cases h : l < a
      · exact ⟨l, hl0, Int.le_refl _, .inr rfl, by rw [if_pos h]⟩
      · exact ⟨a, ha0, by omega, .inl hxa, by rw [if_neg h]⟩
    have HEND := Aside0.mk hend
    clear hend
    by_cases c1 : 0 < m
    · by_cases c2 : 0 < a
      · by_cases c3 : a < l
        · have e1 : decide (0 < m) = true := decide_eq_true c1
          have e2 : decide (0 < a) = true := decide_eq_true c2
          have e3 : decide (a < l) = true := decide_eq_true c3
          by_cases c4 : l - a < a
          · go_wp2
            go_roundg (gk - 1)
            case measure => have := HK.out; omega
            case rel => exact ⟨_, _, rfl, rfl, ⟨by have := HK.out; omega, by omega, by omega, by omega, .inl (by omega), HD.out⟩⟩
          · go_wp2
            go_roundg (gk - 1)
            case measure => have := HK.out; omega
            case rel => exact ⟨_, _, rfl, rfl, ⟨by have := HK.out; omega, by omega, by omega, by omega, .inl (by omega), HD.out⟩⟩
        · obtain ⟨r, r0, r1, r2, r3⟩ := HEND.out (fun h => c3 h.2.2)
          have e1 : decide (0 < m) = true := decide_eq_true c1
          have e2 : decide (0 < a) = true := decide_eq_true c2
          have e3 : decide (a < l) = false := decide_eq_false c3
          go_wp2
          go_ret
          refine ⟨⟨r, r0, r1, r2, ?_⟩, HD.out⟩
          first | rfl | (rw [if_neg (by omega)] at r3; subst r3; rfl)
      · obtain ⟨r, r0, r1, r2, r3⟩ := HEND.out (fun h => c2 h.2.1)
        have e1 : decide (0 < m) = true := decide_eq_true c1
        have e2 : decide (0 < a) = false := decide_eq_false c2
        go_wp2
        go_ret
        refine ⟨⟨r, r0, r1, r2, ?_⟩, HD.out⟩
        first | rfl | (rw [if_neg (by omega)] at r3; subst r3; rfl)
    · obtain ⟨r, r0, r1, r2, r3⟩ := HEND.out (fun h => c1 h.1)
      have e1 : decide (0 < m) = false := decide_eq_false c1
      go_wp2
      go_ret
      refine ⟨⟨r, r0, r1, r2, ?_⟩, HD.out⟩
      first | rfl | (rw [if_neg (by omega)] at r3; subst r3; rfl)
end Go.Proofs.YtbpoapfkeinjnaaGreatDoor.Ld
namespace Go.Proofs.YtbpoapfkeinjnaaGreatDoor.Ld
open Go.RowKit Go.Proofs.YtbpoapfkeinjnaaGreatDoorW.PrintWords Go.Proofs.YtbpoapfkeinjnaaGreatDoorW.PrintLast Go.Proofs.YtbpoapfkeinjnaaGreatDoorW.PrintMore
set_option linter.unusedVariables false
set_option linter.unusedSimpArgs false
attribute [local go_sem] max2_int min2_int max_two min_two
set_option maxHeartbeats 8000000 in
set_option maxRecDepth 100000 in
theorem Mul64_one (n : Nat) (hn : n ≤ 1000) (w : World) :
    Calls Tryz.prog 164 #[.int .u64 1, .int .u64 (n : Int)] w fun e w' => e = .returned (.tuple #[.int .u64 0, .int .u64 (n : Int)]) ∧ Drawn0 w w' := by
  have a1 : bits .and .u64 (n : Int) 4294967295 = (n : Int) := by
    have h := and_nat n 4294967295 (by omega) (by decide)
    have h2 : n &&& 4294967295 = n := by
      have := Nat.and_two_pow_sub_one_of_lt_two_pow (x := n) (n := 32) (by omega)
      simpa using this
    rw [h2] at h
    exact h
  have a2 : bits .and .u64 1 4294967295 = 1 := by decide
  have a3 : (n : Int) / 4294967296 = 0 := by omega
  have a4 : IntKind.u64.wrap (n : Int) = (n : Int) := wraps64 _ (by omega) (by omega)
  have a5 : IntKind.u64.wrap 0 = 0 := by decide
  have a6 : bits .and .u64 0 4294967295 = 0 := by decide
  have a7 : (1 : Int) / 4294967296 = 0 := by decide
  clear hn
  go_enter Tryz.func164, Tryz.ntmps164
  go_wp2
  go_ret2
  exact ⟨rfl, by repeat (first | exact Drawn0.refl _ | apply Drawn0.step)⟩
set_option maxHeartbeats 8000000 in
set_option maxRecDepth 100000 in
theorem Mul_one (n : Nat) (hn : n ≤ 1000) (w : World) :
    Calls Tryz.prog 133 #[.int .u64 1, .int .u64 (n : Int)] w fun e w' => e = .returned (.tuple #[.int .u64 0, .int .u64 (n : Int)]) ∧ Drawn0 w w' := by
  have HN := Aside0.mk hn
  have a4 : IntKind.u64.wrap (n : Int) = (n : Int) := wraps64 _ (by omega) (by omega)
  clear hn
  go_enter Tryz.func133, Tryz.ntmps133
  go_wp2_with (go_at_call 164; go_loud (refine (Mul64_one n HN.out _).mono ?_); rintro e w2 ⟨rfl, hd⟩; have HD := Aside0.mk hd; clear hd)
  go_ret2
  exact ⟨rfl, HD.out⟩
end Go.Proofs.YtbpoapfkeinjnaaGreatDoor.Ld
namespace Go.Proofs.YtbpoapfkeinjnaaGreatDoor.Ld
open Go.RowKit Go.Proofs.YtbpoapfkeinjnaaGreatDoorW.PrintWords Go.Proofs.YtbpoapfkeinjnaaGreatDoorW.PrintLast Go.Proofs.YtbpoapfkeinjnaaGreatDoorW.PrintMore
set_option linter.unusedVariables false
set_option linter.unusedSimpArgs false
def turNew (n : Int) : Tur := ⟨cutQ n, 0, []⟩
theorem TurNew_calls (n : Int) (w : World) : Calls Tryz.prog 38 #[.int .i64 n] w fun e w' => e = .returned (.pointer (some ⟨w.heap.size, 0, none⟩)) ∧ TurAt (fun k => w.heap.size ≤ k) w' w.heap.size (turNew n) ∧ Below w.heap.size w w' :=
  (TNew_calls 0 n w).mono fun e w' h => ⟨h.1, ⟨_, [], h.2.1.blk, RowAt.nil _ _ _ _, Fam.nil, Nat.le_refl _⟩, h.2.2⟩
theorem turNew_inv (n : Int) : TurInv (turNew n) where
  q := by show 1 ≤ cutQ n ∧ cutQ n ≤ 1048576; unfold cutQ; split <;> (try split) <;> omega
  w := fun i hi => absurd hi (Nat.not_lt_zero _)
  c := fun i hi => absurd hi (Nat.not_lt_zero _)
  a := ⟨Int.le_refl _, .inr ⟨rfl, rfl⟩⟩
  n := by show 0 ≤ 900; omega
theorem mbs_snoc (l : List Mb) (x : Mb) (i : Nat) : mbs (l ++ [x]) i = if i < l.length then mbs l i else if i = l.length then x else mb0 := by
  unfold mbs
  rw [List.getD_eq_getElem?_getD, List.getD_eq_getElem?_getD]
  by_cases h : i < l.length
  · rw [if_pos h, List.getElem?_append_left h]
  · rw [if_neg h, List.getElem?_append_right (by omega)]
    by_cases e : i = l.length
    · rw [if_pos e, e, Nat.sub_self]; rfl
    · rw [if_neg e]
      obtain ⟨m, hm⟩ : ∃ m, i - l.length = m + 1 := ⟨i - l.length - 1, by omega⟩
      rw [hm]; rfl
theorem joinSt_inv {t : Tur} (h : TurInv t) (id wt : Int) (hn : t.l.length < 900) : TurInv (joinSt t id wt) := by
  unfold joinSt
  by_cases e : joinErr t id wt = 0
  · rw [if_pos e]
    have hw : 1 ≤ wt ∧ wt ≤ 100 := by
      unfold joinErr at e
      by_cases c : wt < 1 ∨ 100 < wt
      · rw [if_pos c] at e; omega
      · omega
    refine ⟨h.q, fun i hi => ?_, fun i hi => ?_, ?_, ?_⟩
    · show 1 ≤ (mbs (t.l ++ [⟨id, wt, 0⟩]) i).weight ∧ _
      rw [mbs_snoc]
      by_cases c : i < t.l.length
      · rw [if_pos c]; exact h.w i c
      · have hi2 : i < (t.l ++ [(⟨id, wt, 0⟩ : Mb)]).length := hi
        rw [List.length_append, List.length_singleton] at hi2
        rw [if_neg c, if_pos (by omega)]
        exact hw
    · show 0 ≤ (mbs (t.l ++ [⟨id, wt, 0⟩]) i).credit ∧ _
      rw [mbs_snoc]
      by_cases c : i < t.l.length
      · rw [if_pos c]; exact h.c i c
      · have hi2 : i < (t.l ++ [(⟨id, wt, 0⟩ : Mb)]).length := hi
        rw [List.length_append, List.length_singleton] at hi2
        rw [if_neg c, if_pos (by omega)]
        exact ⟨Int.le_refl _, fun _ => (by omega : (0 : Int) ≤ 1048576), (by omega : (0 : Int) ≤ 105906176)⟩
    · refine ⟨h.a.1, .inl ?_⟩
      show t.at_ < ((t.l ++ [(⟨id, wt, 0⟩ : Mb)]).length : Int)
      rw [List.length_append, List.length_singleton]
      rcases h.a.2 with c | ⟨c, _⟩ <;> omega
    · show (t.l ++ [(⟨id, wt, 0⟩ : Mb)]).length ≤ 900
      rw [List.length_append, List.length_singleton]; omega
  · rw [if_neg e]; exact h
theorem take_inv {t : Tur} {cs : List Int} (h : TurInv t) (hc : CanTake cs t) : TurInv { t with l := t.l.set t.at_.toNat { mAt t with credit := (mAt t).credit - cAt cs t } } where
  q := h.q
  w := fun i hi => by
    have hi2 : i < t.l.length := by simpa using hi
    show 1 ≤ (mbs (t.l.set t.at_.toNat _) i).weight ∧ _
    rw [mbs_set]
    split
    · rename_i e
      rw [← e.1] at hi2
      exact h.w _ hi2
    · exact h.w i hi2
  c := fun i hi => by
    have hi2 : i < t.l.length := by simpa using hi
    show 0 ≤ (mbs (t.l.set t.at_.toNat _) i).credit ∧ _
    rw [mbs_set]
    split
    · rename_i e
      rw [← e.1] at hi2
      have h1 := h.c _ hi2
      have h2 := hc.1
      have h3 := hc.2
      have h4 := h.a.1
      unfold mAt at h3 ⊢
      exact ⟨by dsimp only; omega, fun hne => absurd (show (i : Int) = t.at_ by rw [← e.1]; omega) hne, by dsimp only; omega⟩
    · exact h.c i hi2
  a := ⟨h.a.1, by
    rcases h.a.2 with e | ⟨e1, e2⟩
    · exact .inl (by show t.at_ < ((t.l.set _ _).length : Int); rw [List.length_set]; exact e)
    · exact .inr ⟨e1, by show t.l.set _ _ = []; rw [e2]; rfl⟩⟩
  n := by show (t.l.set _ _).length ≤ 900; rw [List.length_set]; exact h.n
theorem mbs_erase (l : List Mb) (i j : Nat) : mbs (l.eraseIdx i) j = if j < i then mbs l j else mbs l (j + 1) := by
  unfold mbs
  rw [List.getD_eq_getElem?_getD, List.getElem?_eraseIdx]
  split <;> rw [List.getD_eq_getElem?_getD]
theorem leave_inv {t : Tur} (h : TurInv t) (id : Int) : TurInv (leaveSt t id) := by
  unfold leaveSt
  by_cases e : placeI t.l id < 0
  · rw [if_pos e]; exact h
  · rw [if_neg e]
    obtain ⟨i, hi⟩ : ∃ i : Nat, placeI t.l id = (i : Int) := ⟨(placeI t.l id).toNat, by omega⟩
    have hil : i < t.l.length := by rcases placeI_cases t.l id with c | c <;> omega
    rw [hi, Int.toNat_natCast]
    have hlen : (t.l.eraseIdx i).length = t.l.length - 1 := by rw [List.length_eraseIdx, if_pos hil]
    have ha := h.a
    refine ⟨h.q, fun j hj => ?_, fun j hj => ?_, ?_, ?_⟩
    · have hj2 : j < t.l.length - 1 := by rw [← hlen]; exact hj
      show 1 ≤ (mbs (t.l.eraseIdx i) j).weight ∧ _
      rw [mbs_erase]
      split
      · exact h.w j (by omega)
      · exact h.w (j + 1) (by omega)
    · have hj2 : j < t.l.length - 1 := by rw [← hlen]; exact hj
      show 0 ≤ (mbs (t.l.eraseIdx i) j).credit ∧ ((j : Int) ≠ leaveAt2 t (i : Int) → _) ∧ _
      rw [mbs_erase]
      unfold leaveAt2 leaveAt
      by_cases c : j < i
      · rw [if_pos c]
        have h1 := h.c j (by omega)
        refine ⟨h1.1, fun hne => h1.2.1 fun e2 => hne ?_, h1.2.2⟩
        rw [if_neg (show ¬ (i : Int) < t.at_ by omega), if_neg (show ¬ t.at_ = (t.l.length : Int) - 1 by omega)]
        exact e2
      · rw [if_neg c]
        have h1 := h.c (j + 1) (by omega)
        refine ⟨h1.1, fun hne => h1.2.1 fun e2 => hne ?_, h1.2.2⟩
        rw [if_pos (show (i : Int) < t.at_ by omega), if_neg (show ¬ t.at_ - 1 = (t.l.length : Int) - 1 by omega)]
        omega
    · show 0 ≤ leaveAt2 t (i : Int) ∧ (leaveAt2 t (i : Int) < ((t.l.eraseIdx i).length : Int) ∨ (leaveAt2 t (i : Int) = 0 ∧ t.l.eraseIdx i = []))
      rw [hlen]
      have hat : t.at_ < t.l.length := by
        rcases ha.2 with c | ⟨_, c⟩
        · exact c
        · rw [c] at hil; exact absurd hil (Nat.not_lt_zero _)
      have hnil : t.l.length = 1 → t.l.eraseIdx i = [] := fun e1 => List.eq_nil_of_length_eq_zero (by rw [hlen]; omega)
      unfold leaveAt2 leaveAt
      by_cases c1 : (i : Int) < t.at_
      · rw [if_pos c1, if_neg (show ¬ t.at_ - 1 = (t.l.length : Int) - 1 by omega)]
        omega
      · rw [if_neg c1]
        by_cases c2 : t.at_ = (t.l.length : Int) - 1
        · rw [if_pos c2]
          refine ⟨Int.le_refl _, ?_⟩
          by_cases c3 : t.l.length = 1
          · exact .inr ⟨rfl, hnil c3⟩
          · exact .inl (by omega)
        · rw [if_neg c2]
          omega
    · show (t.l.eraseIdx i).length ≤ 900
      rw [hlen]
      have := h.n
      omega
end Go.Proofs.YtbpoapfkeinjnaaGreatDoor.Ld
namespace Go.Proofs.YtbpoapfkeinjnaaGreatDoor.Ld
open Go.RowKit
set_option linter.unusedVariables false
set_option linter.unusedSimpArgs false
def addG (G : Gr) (x y : Nat) : Gr where
  N := G.N
  L := fun b j => match b with
    | false => if j = x then G.L false x ++ [(y : Int)] else G.L false j
    | true => if j = y then G.L true y ++ [(x : Int)] else G.L true j
  T := fun j => if j = x then G.T x ||| 2 ^ y else G.T j
  n := G.n + 1
theorem addG_f (G : Gr) (x y j : Nat) (k : Int) : k ∈ (addG G x y).L false j ↔ k ∈ G.L false j ∨ (j = x ∧ k = (y : Int)) := by
  show k ∈ (if j = x then G.L false x ++ [(y : Int)] else G.L false j) ↔ _
  by_cases e : j = x
  · subst e; simp
  · rw [if_neg e]; simp [e]
theorem addG_t (G : Gr) (x y j : Nat) (k : Int) : k ∈ (addG G x y).L true j ↔ k ∈ G.L true j ∨ (j = y ∧ k = (x : Int)) := by
  show k ∈ (if j = y then G.L true y ++ [(x : Int)] else G.L true j) ↔ _
  by_cases e : j = y
  · subst e; simp
  · rw [if_neg e]; simp [e]
theorem nodup_snoc {l : List Int} {x : Int} (h : l.Nodup) (hx : x ∉ l) : (l ++ [x]).Nodup := by
  rw [List.nodup_append]
  refine ⟨h, by simp, fun a ha b hb e => ?_⟩
  simp at hb
  subst hb
  subst e
  exact hx ha
theorem addG_inv {G : Gr} (h : GrInv G) {x y : Nat} (hx : x < G.N) (hy : y < G.N) (hno : (G.T x).testBit y = false) : GrInv (addG G x y) where
  N64 := h.N64
  lt := fun j hj => by
    show (if j = x then G.T x ||| 2 ^ y else G.T j) < 2 ^ 64
    have h64 := h.N64
    by_cases e : j = x
    · rw [if_pos e]; exact Nat.or_lt_two_pow (h.lt x hx) (Nat.pow_lt_pow_right (by decide) (by omega))
    · rw [if_neg e]; exact h.lt j hj
  bit := fun j hj k => by
    rw [addG_f]
    show (if j = x then G.T x ||| 2 ^ y else G.T j).testBit k = true ↔ _
    by_cases e : j = x
    · subst e
      rw [if_pos rfl, Nat.testBit_or, Nat.testBit_two_pow, or_true, h.bit j hj k]
      constructor
      · rintro (c | c)
        · exact .inl c
        · exact .inr ⟨rfl, by rw [of_decide_eq_true c]⟩
      · rintro (c | ⟨_, c⟩)
        · exact .inl c
        · exact .inr (decide_eq_true (by omega))
    · rw [if_neg e, h.bit j hj k]; simp [e]
  mem := fun b j hj z hz => by
    cases b
    · rcases (addG_f G x y j z).1 hz with c | ⟨_, c⟩
      · exact h.mem false j hj z c
      · exact ⟨y, c, hy⟩
    · rcases (addG_t G x y j z).1 hz with c | ⟨_, c⟩
      · exact h.mem true j hj z c
      · exact ⟨x, c, hx⟩
  back := fun j hj k hk => by
    rw [addG_f, addG_t, h.back j hj k hk]
    constructor
    · rintro (c | ⟨c1, c2⟩)
      · exact .inl c
      · exact .inr ⟨by omega, by omega⟩
    · rintro (c | ⟨c1, c2⟩)
      · exact .inl c
      · exact .inr ⟨by omega, by omega⟩
  dup := fun b j hj => by
    have hn1 : (y : Int) ∉ G.L false x := fun c => by rw [(h.bit x hx y).2 c] at hno; cases hno
    have hn2 : (x : Int) ∉ G.L true y := fun c => hn1 ((h.back x hx y hy).1 c)
    cases b
    · show (if j = x then G.L false x ++ [(y : Int)] else G.L false j).Nodup
      by_cases e : j = x
      · rw [if_pos e]; exact nodup_snoc (h.dup false x hx) hn1
      · rw [if_neg e]; exact h.dup false j hj
    · show (if j = y then G.L true y ++ [(x : Int)] else G.L true j).Nodup
      by_cases e : j = y
      · rw [if_pos e]; exact nodup_snoc (h.dup true y hy) hn2
      · rw [if_neg e]; exact h.dup true j hj
end Go.Proofs.YtbpoapfkeinjnaaGreatDoor.Ld
namespace Go.Proofs.YtbpoapfkeinjnaaGreatDoor.Ld
open Go.RowKit Go.Proofs.YtbpoapfkeinjnaaGreatDoorW.PrintWords Go.Proofs.YtbpoapfkeinjnaaGreatDoorW.PrintLast Go.Proofs.YtbpoapfkeinjnaaGreatDoorW.PrintMore
set_option linter.unusedVariables false
set_option linter.unusedSimpArgs false
attribute [local go_sem] max2_int min2_int max_two min_two
set_option maxHeartbeats 8000000 in
set_option maxRecDepth 100000 in
theorem told_calls (b : Bool) (w : World) : Calls Tryz.prog 70 #[.bool b] w fun e w' => e = .returned (.int .i64 (if b then 0 else 3)) ∧ Drawn0 w w' := by
  cases b
  all_goals
    go_enter Tryz.func70, Tryz.ntmps70
    go_wp2
    go_ret
    exact ⟨rfl, by repeat (first | exact Drawn0.refl _ | apply Drawn0.step)⟩
def WithinP (lo up1 : Int) (xs : List Int) (n : Nat) (e : Ending) : Prop := ∃ b : Bool, e = .returned (.bool b) ∧ (b = true ↔ ∀ i, i < n → lo ≤ xs.getD i 0 ∧ xs.getD i 0 ≤ up1)
set_option maxHeartbeats 8000000 in
set_option maxRecDepth 100000 in
theorem within_calls (lo up1 : Int) (xs : List Int) (n cp : Nat) (B : Option Addr) (w : World) (hr : RI w B xs) (hn : xs.length = n) (hn2 : n ≤ 1000) :
    Calls Tryz.prog 69 #[.int .i64 lo, .int .i64 up1, .slice B n cp] w fun e w' => WithinP lo up1 xs n e ∧ Drawn0 w w' := by
  have HR := Aside0.mk hr
  have HN := Aside0.mk hn
  clear hr hn
  go_enter Tryz.func69, Tryz.ntmps69
  go_wp2
  go_loopg [11] (n + 1) (fun kq v11 wr => ∃ i : Nat, v11 = .int .i64 (i : Int) ∧ Aside0 (kq + i = n + 1 ∧ i ≤ n ∧ (∀ j, j < i → lo ≤ xs.getD j 0 ∧ xs.getD j 0 ≤ up1) ∧ Drawn0 w wr))
  case atStart => exact ⟨0, rfl, ⟨by omega, by omega, fun j hj => absurd hj (Nat.not_lt_zero _), by repeat (first | exact Drawn0.refl _ | apply Drawn0.step)⟩⟩
  case round =>
    obtain ⟨i, rfl, hA⟩ := hrel
    obtain ⟨hk, hi, hall, hd⟩ := hA.out
    have HD := Aside0.mk hd
    have HALL := Aside0.mk hall
    clear hA hall
    by_cases hlt : i < n
    · obtain ⟨ad, rfl, hcell⟩ := RI.at_ (ReadsOf.below HR.out HD.out.below) i (by rw [HN.out]; exact hlt)
      obtain ⟨x, hx⟩ : ∃ x, xs.getD i 0 = x := ⟨_, rfl⟩
      rw [hx] at hcell
      have HX := Aside0.mk hx
      have p1 : (0 ≤ (i : Int)) = True := eq_true (by omega)
      have p2 : ((i : Int) < (n : Int)) = True := eq_true (by omega)
      clear hx hd
      by_cases c1 : x < lo
      · have d1 : decide (x < lo) = true := decide_eq_true c1
        go_wp2
        go_ret
        exact ⟨⟨false, rfl, ⟨fun h => (by cases h), fun h => by have := (h i hlt).1; rw [HX.out] at this; omega⟩⟩, HD.out⟩
      · by_cases c2 : up1 < x
        · have d1 : decide (x < lo) = false := decide_eq_false c1
          have d2 : decide (up1 < x) = true := decide_eq_true c2
          go_wp2
          go_ret
          exact ⟨⟨false, rfl, ⟨fun h => (by cases h), fun h => by have := (h i hlt).2; rw [HX.out] at this; omega⟩⟩, HD.out⟩
        · have d1 : decide (x < lo) = false := decide_eq_false c1
          have d2 : decide (up1 < x) = false := decide_eq_false c2
          go_wp2
          go_roundg (gk - 1)
          case measure => omega
          case rel =>
            refine ⟨i + 1, by rw [show ((i : Int) + 1) = ((i + 1 : Nat) : Int) by omega], ⟨by omega, by omega, fun j hj => ?_, HD.out⟩⟩
            rcases Nat.lt_succ_iff_lt_or_eq.1 hj with h | rfl
            · exact HALL.out j h
            · rw [HX.out]; omega
    · have p2 : ((i : Int) < (n : Int)) = False := eq_false (by omega)
      go_wp2
      go_ret
      exact ⟨⟨true, rfl, ⟨fun _ j hj => HALL.out j (by omega), fun _ => rfl⟩⟩, HD.out⟩
end Go.Proofs.YtbpoapfkeinjnaaGreatDoor.Ld
namespace Go.Proofs.YtbpoapfkeinjnaaGreatDoor.Ld
open Go.RowKit Go.Proofs.YtbpoapfkeinjnaaGreatDoorW.PrintWords Go.Proofs.YtbpoapfkeinjnaaGreatDoorW.PrintLast Go.Proofs.YtbpoapfkeinjnaaGreatDoorW.PrintMore
set_option linter.unusedVariables false
set_option linter.unusedSimpArgs false
attribute [local go_sem] max2_int min2_int max_two min_two
def TaskP (m c : Int) (e : Ending) : Prop := ∃ b : Bool, e = .returned (.int .i64 (if b then 0 else 3)) ∧ (b = true ↔ 1 ≤ m ∧ m ≤ 1048576 ∧ 1 ≤ c ∧ c ≤ 1048576)
theorem ri_lit' (W : World) (k : Nat) (xs : List Int) (hk : W.heap.size = k) (hm : xs.length ≤ 1000) : RI (W.alloc (.cells (encs (Value.int .i64) xs).toArray 3)) (some ⟨k, 0, none⟩) xs := hk ▸ ri_lit W xs hm
theorem told_any (b : Bool) (w : World) : Calls Tryz.prog 70 #[.bool b] w fun e w' => (∃ r : Int, e = .returned (.int .i64 r) ∧ Aside0 (r = if b then 0 else 3)) ∧ Drawn0 w w' :=
  (told_calls b w).mono fun e w' h => ⟨⟨_, h.1, ⟨rfl⟩⟩, h.2⟩
theorem within_task (m c : Int) (A : Option Addr) (w : World) (hr : RI w A [m, c]) :
    Calls Tryz.prog 69 #[.int .i64 1, .int .i64 1048576, .slice A 2 2] w fun e w' => (∃ b : Bool, e = .returned (.bool b) ∧ (b = true ↔ 1 ≤ m ∧ m ≤ 1048576 ∧ 1 ≤ c ∧ c ≤ 1048576)) ∧ Drawn0 w w' :=
  (within_calls 1 1048576 [m, c] 2 2 A w hr rfl (by omega)).mono fun e w' h => ⟨by
    obtain ⟨⟨b, he, hb⟩, _⟩ := h
    refine ⟨b, he, hb.trans ⟨fun h => ?_, fun h i hi => ?_⟩⟩
    · have h0 := h 0 (by omega)
      have h1 := h 1 (by omega)
      exact ⟨h0.1, h0.2, h1.1, h1.2⟩
    · rcases i with _ | _ | i
      · exact ⟨h.1, h.2.1⟩
      · exact h.2.2
      · omega, h.2⟩
set_option maxHeartbeats 8000000 in
set_option maxRecDepth 100000 in
theorem cTask_calls (m c : Int) (w : World) : Calls Tryz.prog 39 #[.agg #[.int .i64 m, .int .i64 c]] w fun e w' => TaskP m c e ∧ Below w.heap.size w w' := by
  go_enter Tryz.func39, Tryz.ntmps39
  go_wp2_with (first
    | (go_at_call 69; go_loud (refine (within_task m c _ _ ?q1).mono ?_); (case q1 => exact ri_lit' _ _ [m, c] (by simp) (by simp)); rintro e w2 ⟨⟨b, rfl, hb⟩, hd⟩; have HB := Aside0.mk hb; have HD := Aside0.mk hd; clear hb hd)
    | (go_at_call 70; (with_reducible refine (told_any b _).mono ?_); rintro e w3 ⟨⟨r, rfl, hr⟩, hd⟩; have HD3 := Aside0.mk (drawnT HD.out hd); clear hd))
  go_ret
  exact ⟨⟨b, by rw [hr.out]; rfl, HB.out⟩, below_step (below_alloc (below_alloc (Below.refl _ w) _) _) HD3.out.below⟩
theorem box_on {w w2 : World} {o o2 : Obj} (h : Below ((w.alloc o).alloc o2).heap.size ((w.alloc o).alloc o2) w2) : w2.heap[w.heap.size]? = some o :=
  blk_below (blk_below (heap_alloc_new w o) (below_alloc (Below.refl _ _) o2)) h
structure Cf where
  budget : Int
  slots : Int
  active : Int
  queue : Int
  tries : Int
  preempts : Int
  timeout : Int
  backoff : Int
  most : Int
  quantum : Int
def encCf (c : Cf) : Array Value := #[.int .i64 c.budget, .int .i64 c.slots, .int .i64 c.active, .int .i64 c.queue, .int .i64 c.tries, .int .i64 c.preempts, .int .i64 c.timeout, .int .i64 c.backoff, .int .i64 c.most, .int .i64 c.quantum]
structure CfOk (c : Cf) : Prop where
  budget : 1 ≤ c.budget ∧ c.budget ≤ 1048576
  slots : 1 ≤ c.slots ∧ c.slots ≤ 16
  active : 1 ≤ c.active ∧ c.active ≤ 1048576
  queue : 0 ≤ c.queue ∧ c.queue ≤ 1048576
  tries : 1 ≤ c.tries ∧ c.tries ≤ 1048576
  preempts : 0 ≤ c.preempts ∧ c.preempts ≤ 1048576
  timeout : 1 ≤ c.timeout ∧ c.timeout ≤ 1048576
  backoff : 1 ≤ c.backoff ∧ c.backoff ≤ 1048576
  most : 1 ≤ c.most ∧ c.most ≤ 1048576
  quantum : 1 ≤ c.quantum ∧ c.quantum ≤ 1048576
theorem within_yes (lo up1 : Int) (xs : List Int) (n : Nat) (A : Option Addr) (w : World) (hr : RI w A xs) (hn : xs.length = n) (hn2 : n ≤ 1000) (h : ∀ i, i < n → lo ≤ xs.getD i 0 ∧ xs.getD i 0 ≤ up1) :
    Calls Tryz.prog 69 #[.int .i64 lo, .int .i64 up1, .slice A n n] w fun e w' => e = .returned (.bool true) ∧ Drawn0 w w' :=
  (within_calls lo up1 xs n n A w hr hn hn2).mono fun e w' k => by
    obtain ⟨⟨b, rfl, hb⟩, hd⟩ := k
    exact ⟨by rw [hb.2 h], hd⟩
theorem within_cf7 (c : Cf) (h : CfOk c) (A : Option Addr) (w : World) (hr : RI w A [c.budget, c.active, c.tries, c.timeout, c.backoff, c.most, c.quantum]) :
    Calls Tryz.prog 69 #[.int .i64 1, .int .i64 1048576, .slice A 7 7] w fun e w' => e = .returned (.bool true) ∧ Drawn0 w w' :=
  within_yes 1 1048576 _ 7 A w hr rfl (by omega) fun i hi => by
    rcases i with _ | _ | _ | _ | _ | _ | _ | i
    · exact h.budget
    · exact h.active
    · exact h.tries
    · exact h.timeout
    · exact h.backoff
    · exact h.most
    · exact h.quantum
    · omega
theorem within_cf2 (c : Cf) (h : CfOk c) (A : Option Addr) (w : World) (hr : RI w A [c.queue, c.preempts]) :
    Calls Tryz.prog 69 #[.int .i64 0, .int .i64 1048576, .slice A 2 2] w fun e w' => e = .returned (.bool true) ∧ Drawn0 w w' :=
  within_yes 0 1048576 _ 2 A w hr rfl (by omega) fun i hi => by
    rcases i with _ | _ | i
    · exact h.queue
    · exact h.preempts
    · omega
theorem within_cf1 (c : Cf) (h : CfOk c) (A : Option Addr) (w : World) (hr : RI w A [c.slots]) :
    Calls Tryz.prog 69 #[.int .i64 1, .int .i64 16, .slice A 1 1] w fun e w' => e = .returned (.bool true) ∧ Drawn0 w w' :=
  within_yes 1 16 _ 1 A w hr rfl (by omega) fun i hi => by
    rcases i with _ | i
    · exact h.slots
    · omega
set_option maxHeartbeats 8000000 in
set_option maxRecDepth 100000 in
theorem cConfig_calls (c : Cf) (h : CfOk c) (w : World) : Calls Tryz.prog 32 #[.agg (encCf c)] w fun e w' => e = .returned (.int .i64 0) ∧ Below w.heap.size w w' := by
  have H := Aside0.mk h
  clear h
  unfold encCf
  go_enter Tryz.func32, Tryz.ntmps32
  go_wp2_with (first
    | (go_at_call 69; (with_reducible refine (within_cf7 c H.out _ _ ?q1).mono ?_); (case q1 => exact ri_lit' _ _ _ (by simp) (by simp)); rintro e w2 ⟨rfl, hd⟩; have HB2 := Aside0.mk (below_step (below_alloc (below_alloc (Below.refl _ w) _) _) hd.below); have hbx := box_on hd.below; have e3 := (blk_cell hbx 3).trans rfl; have e5 := (blk_cell hbx 5).trans rfl; have e1 := (blk_cell hbx 1).trans rfl; have HX := Aside0.mk hbx; clear hd hbx)
    | (go_at_call 69; (with_reducible refine (within_cf2 c H.out _ _ ?q1).mono ?_); (case q1 => exact ri_lit' _ _ _ (by simp) (by simp)); rintro e w3 ⟨rfl, hd⟩; have HB3 := Aside0.mk (below_step HB2.out (below_step (below_alloc (Below.refl _ w2) _) hd.below)); have hbx := blk_below HX.out (below_step (below_alloc (Below.refl _ w2) _) hd.below); have f1 := (blk_cell hbx 1).trans rfl; clear hd hbx)
    | (go_at_call 69; (with_reducible refine (within_cf1 c H.out _ _ ?q1).mono ?_); (case q1 => exact ri_lit' _ _ _ (by simp) (by simp)); rintro e w4 ⟨rfl, hd⟩; have HB4 := Aside0.mk (below_step HB3.out (below_step (below_alloc (Below.refl _ w3) _) hd.below)); clear hd)
    | (go_at_call 70; (with_reducible refine (told_any true _).mono ?_); rintro e w5 ⟨⟨r, rfl, hr⟩, hd⟩; have HB5 := Aside0.mk (below_step HB4.out hd.below); clear hd))
  go_ret
  exact ⟨by rw [hr.out]; rfl, HB5.out⟩
end Go.Proofs.YtbpoapfkeinjnaaGreatDoor.Ld
namespace Go.Proofs.YtbpoapfkeinjnaaGreatDoor.Ld
open Go.RowKit Go.Proofs.YtbpoapfkeinjnaaGreatDoorW.PrintWords Go.Proofs.YtbpoapfkeinjnaaGreatDoorW.PrintLast Go.Proofs.YtbpoapfkeinjnaaGreatDoorW.PrintMore
set_option linter.unusedVariables false
set_option linter.unusedSimpArgs false
inductive Rl where
  | no | eng | all | tasks | task (i : Nat) | life (i : Nat) | reqs | req (i : Nat) | gr | tm | led | ad | tu | log
structure Ev where
  kind : Int
  task : Int
  slot : Int
  epoch : Int
  tick : Int
def encEv (x : Ev) : List Value := [.int .i64 x.kind, .int .i64 x.task, .int .i64 x.slot, .int .i64 x.epoch, .int .i64 x.tick]
structure Rq where
  root : Int
  weight : Int
  prio : Int
  state : Int
def encRq (x : Rq) : Array Value := #[.int .i64 x.root, .int .i64 x.weight, .int .i64 x.prio, .int .i64 x.state]
structure Td where
  mem : Int
  cost : Int
def encTd (x : Td) : List Value := [.int .i64 x.mem, .int .i64 x.cost]
structure Eng where
  c : Cf
  N : Nat
  mem : Nat → Int
  cost : Nat → Int
  life : Nat → LifeS
  waits : Nat → Int
  since : Nat → Int
  nr : Nat
  rq : Nat → Rq
  gr : Gr
  tm : Hp
  led : Led
  ad : Adm
  tu : Tur
  now : Int
  begun : Int
  log : List Ev
def Eng.tds (e : Eng) : List Td := (List.range e.N).map fun i => ⟨e.mem i, e.cost i⟩
theorem Eng.tds_len (e : Eng) : e.tds.length = e.N := by simp [Eng.tds]
structure EV where
  va : Value
  vt : Value
  vr : Value
  vl : Value
  gg : Nat
  gm : Nat
  gl : Nat
  ga : Nat
  gu : Nat
  tp : Nat → Nat
  lp : Nat → Nat
  rp : Nat → Nat
  cv : Nat → Value
def encEng (e : Eng) (V : EV) : Array Value := #[.int .i64 e.c.budget, .int .i64 e.c.slots, .int .i64 e.c.active, .int .i64 e.c.queue, .int .i64 e.c.tries, .int .i64 e.c.preempts, .int .i64 e.c.timeout, .int .i64 e.c.backoff, .int .i64 e.c.most, .int .i64 e.c.quantum, V.va, V.vt, V.vr, ptrV V.gg, ptrV V.gm, ptrV V.gl, ptrV V.ga, ptrV V.gu, .int .i64 e.now, .int .i64 e.begun, V.vl]
def encTk (e : Eng) (V : EV) (i : Nat) : Array Value := #[.int .i64 (e.mem i), .int .i64 (e.cost i), ptrV (V.lp i), .int .i64 (e.waits i), .int .i64 (e.since i), V.cv i]
def R (ρ : Nat → Rl) (r : Rl) : Nat → Prop := fun k => ρ k = r
def part (ρ : Nat → Rl) (w : World) (g : Nat) (e : Eng) (V : EV) : Rl → Prop
  | .no => True
  | .eng => ρ g = .eng ∧ w.heap[g]? = some (.cells (encEng e V) 72 (0, 0))
  | .all => RowAt (R ρ .all) w 29 2 V.va e.N (flat encTd e.tds)
  | .tasks => RowAt (R ρ .tasks) w 74 1 V.vt e.N (slRow e.N fun i => ptrV (V.tp i))
  | .task i => i < e.N → ρ (V.tp i) = .task i ∧ w.heap[V.tp i]? = some (.cells (encTk e V i) 78 (0, 0))
  | .life i => i < e.N → ρ (V.lp i) = .life i ∧ LifeAt w (V.lp i) (e.life i)
  | .reqs => RowAt (R ρ .reqs) w 91 1 V.vr e.nr (slRow e.nr fun i => ptrV (V.rp i))
  | .req i => i < e.nr → ρ (V.rp i) = .req i ∧ w.heap[V.rp i]? = some (.cells (encRq (e.rq i)) 93 (0, 0))
  | .gr => GrAt (R ρ .gr) w V.gg e.gr
  | .tm => TmAt (R ρ .tm) w V.gm e.tm
  | .led => ρ V.gl = .led ∧ At w V.gl e.led
  | .ad => AdmAt (R ρ .ad) w V.ga e.ad
  | .tu => TurAt (R ρ .tu) w V.gu e.tu
  | .log => RowAt (R ρ .log) w 52 5 V.vl e.log.length (flat encEv e.log)
structure EngP (S : Nat → Prop) (ρ : Nat → Rl) (w : World) (g : Nat) (e : Eng) (V : EV) : Prop where
  p : ∀ r, part ρ w g e V r
  lt : ∀ k, ρ k ≠ .no → k < w.heap.size
  sub : ∀ k, ρ k ≠ .no → S k
structure EK where
  va : Value
  ta : Nat
  tc : Nat
  gg : Nat
  gm : Nat
  gl : Nat
  ga : Nat
  gu : Nat
  tp : Nat → Nat
  lp : Nat → Nat
  rp : Nat → Nat
def EK.V (K : EK) (N : Nat) (vr vl : Value) (cv : Nat → Value) : EV := ⟨K.va, .slice (some ⟨K.ta, 0, none⟩) N K.tc, vr, vl, K.gg, K.gm, K.gl, K.ga, K.gu, K.tp, K.lp, K.rp, cv⟩
def EngAt (S : Nat → Prop) (w : World) (g : Nat) (K : EK) (e : Eng) : Prop := ∃ ρ vr vl cv, EngP S ρ w g e (K.V e.N vr vl cv)
theorem keep_blk {w w' : World} {S : Nat → Prop} {b : Nat} {o : Obj} (hk : Keep S w w') (h : w.heap[b]? = some o) (hs : S b) : w'.heap[b]? = some o := (hk b (blk_lt h) hs).trans h
theorem part_keep {ρ ρ' : Nat → Rl} {w w' : World} {g : Nat} {e : Eng} {V : EV} (r : Rl) (h : part ρ w g e V r) (hk : Keep (R ρ r) w w') (hρ : ∀ k, k < w.heap.size → ρ' k = ρ k) : part ρ' w' g e V r := by
  have hm : ∀ k, k < w.heap.size → R ρ r k → R ρ' r k := fun k h1 h2 => (hρ k h1).trans h2
  have hk' : Keep (R ρ' r) w w' := fun k h1 h2 => hk k h1 ((hρ k h1).symm.trans h2)
  cases r with
  | no => trivial
  | eng => exact ⟨(hρ g (blk_lt h.2)).trans h.1, keep_blk hk h.2 h.1⟩
  | all => exact (RowAt.mono h hm).keep hk'
  | tasks => exact (RowAt.mono h hm).keep hk'
  | task i => exact fun hi => ⟨(hρ _ (blk_lt (h hi).2)).trans (h hi).1, keep_blk hk (h hi).2 (h hi).1⟩
  | life i => exact fun hi => ⟨(hρ _ (blk_lt (h hi).2)).trans (h hi).1, keep_blk hk (h hi).2 (h hi).1⟩
  | reqs => exact (RowAt.mono h hm).keep hk'
  | req i => exact fun hi => ⟨(hρ _ (blk_lt (h hi).2)).trans (h hi).1, keep_blk hk (h hi).2 (h hi).1⟩
  | gr => exact (GrAt.mono h hm).keep hk'
  | tm => exact (TmAt.mono h hm).keep hk'
  | led => exact ⟨(hρ _ (blk_lt h.2)).trans h.1, keep_blk hk h.2 h.1⟩
  | ad => exact (AdmAt.mono h hm).keep hk'
  | tu => exact (TurAt.mono h hm).keep hk'
  | log => exact (RowAt.mono h hm).keep hk'
theorem EngP.step {S : Nat → Prop} {ρ : Nat → Rl} {w : World} {g : Nat} {e : Eng} {V : EV} (h : EngP S ρ w g e V) {w' : World} {e' : Eng} {V' : EV} (ρ' : Nat → Rl) (T : Rl → Prop) (hρ : ∀ k, k < w.heap.size → ρ' k = ρ k)
    (hlt : ∀ k, ρ' k ≠ .no → k < w'.heap.size) (hc : Chg (fun k => T (ρ k)) w w') (ho : ∀ r, ¬ T r → part ρ w g e V r → part ρ w g e' V' r) (hi : ∀ r, T r → part ρ' w' g e' V' r) : EngP (up S w w') ρ' w' g e' V' where
  p := fun r => by
    by_cases hr : T r
    · exact hi r hr
    · exact part_keep r (ho r hr (h.p r)) (fun k h1 h2 => hc.block k h1 (fun h3 => hr (by have h2' : ρ k = r := h2; rw [h2'] at h3; exact h3))) hρ
  lt := hlt
  sub := fun k hk => by
    by_cases hl : k < w.heap.size
    · exact .inl (h.sub k (by rw [← hρ k hl]; exact hk))
    · exact .inr ⟨by omega, hlt k hk⟩
def ext (ρ : Nat → Rl) (w w' : World) (r : Rl) : Nat → Rl := fun k => if w.heap.size ≤ k ∧ k < w'.heap.size then r else ρ k
theorem ext_old {ρ : Nat → Rl} {w w' : World} {r : Rl} (k : Nat) (hk : k < w.heap.size) : ext ρ w w' r k = ρ k := if_neg (by omega)
theorem ext_new {ρ : Nat → Rl} {w w' : World} {r : Rl} (k : Nat) (hk : w.heap.size ≤ k) (hk' : k < w'.heap.size) : ext ρ w w' r k = r := if_pos ⟨hk, hk'⟩
theorem EngP.ext_lt {S : Nat → Prop} {ρ : Nat → Rl} {w w' : World} {g : Nat} {e : Eng} {V : EV} {r : Rl} (h : EngP S ρ w g e V) (hs : w.heap.size ≤ w'.heap.size) (k : Nat) (hk : ext ρ w w' r k ≠ .no) : k < w'.heap.size := by
  by_cases hl : w.heap.size ≤ k ∧ k < w'.heap.size
  · exact hl.2
  · have h1 : ρ k ≠ .no := by unfold ext at hk; rwa [if_neg hl] at hk
    exact Nat.lt_of_lt_of_le (h.lt k h1) hs
theorem up_R {ρ : Nat → Rl} {w w' : World} {r : Rl} (hlt : ∀ k, R ρ r k → k < w.heap.size) (k : Nat) (h : up (R ρ r) w w' k) : R (ext ρ w w' r) r k := by
  rcases h with h | h
  · exact (ext_old k (hlt k h)).trans h
  · exact ext_new k h.1 h.2
theorem EngP.one {S : Nat → Prop} {ρ : Nat → Rl} {w : World} {g : Nat} {e : Eng} {V : EV} (h : EngP S ρ w g e V) {w' : World} {e' : Eng} {V' : EV} (r : Rl) (hn : r ≠ .no) (hc : Chg (R ρ r) w w')
    (ho : ∀ r', r' ≠ r → part ρ w g e V r' → part ρ w g e' V' r') (hi : part (ext ρ w w' r) w' g e' V' r) : EngP (up S w w') (ext ρ w w' r) w' g e' V' :=
  h.step _ (fun r' => r' = r) (fun k hk => ext_old k hk) (h.ext_lt hc.size) hc ho (fun r' e' => e' ▸ hi)
theorem EngP.up_role {S : Nat → Prop} {ρ : Nat → Rl} {w w' : World} {g : Nat} {e : Eng} {V : EV} {r : Rl} (h : EngP S ρ w g e V) (hn : r ≠ .no) (k : Nat) (hu : up (R ρ r) w w' k) : R (ext ρ w w' r) r k :=
  up_R (fun k hk => h.lt k (by have hk' : ρ k = r := hk; rw [hk']; exact hn)) k hu
theorem EngAt.keep {S : Nat → Prop} {w w' : World} {g : Nat} {K : EK} {e : Eng} (h : EngAt S w g K e) (hb : Below w.heap.size w w') : EngAt S w' g K e := by
  obtain ⟨ρ, vr, vl, cv, h⟩ := h
  exact ⟨ρ, vr, vl, cv, fun r => part_keep r (h.p r) (Keep.of_below hb) (fun _ _ => rfl), fun k hk => Nat.lt_of_lt_of_le (h.lt k hk) hb.size, h.sub⟩
theorem EngAt.mono {S T : Nat → Prop} {w : World} {g : Nat} {K : EK} {e : Eng} (h : EngAt S w g K e) (hs : ∀ k, k < w.heap.size → S k → T k) : EngAt T w g K e := by
  obtain ⟨ρ, vr, vl, cv, h⟩ := h
  exact ⟨ρ, vr, vl, cv, h.p, h.lt, fun k hk => hs k (h.lt k hk) (h.sub k hk)⟩
theorem EngAt.off {S T : Nat → Prop} {w w' : World} {g : Nat} {K : EK} {e : Eng} (h : EngAt S w g K e) (hc : Chg T w w') (hd : ∀ k, S k → ¬ T k) : EngAt S w' g K e := by
  obtain ⟨ρ, vr, vl, cv, h⟩ := h
  exact ⟨ρ, vr, vl, cv, fun r => by
    cases hr : r with
    | no => trivial
    | _ => exact part_keep _ (h.p _) (fun k h1 h2 => hc.block k h1 (hd k (h.sub k (by have h2' : ρ k = _ := h2; rw [h2']; exact fun e => by cases e)))) (fun _ _ => rfl), fun k hk => Nat.lt_of_lt_of_le (h.lt k hk) hc.size, h.sub⟩
def To (S : Nat → Prop) (w : World) (g : Nat) (K : EK) (e' : Eng) (w' : World) : Prop := EngAt (up S w w') w' g K e' ∧ Chg S w w'
section
variable {S : Nat → Prop} {w w1 w2 : World} {g : Nat} {K K' : EK} {e e1 e2 : Eng}
theorem To.trans (h : To S w g K e1 w1) (k : To (up S w w1) w1 g K' e2 w2) : To S w g K' e2 w2 :=
  ⟨k.1.mono fun j _ hj => up_up h.2.size k.2.size j hj, h.2.then_up k.2⟩
theorem To.then_below (h : To S w g K e1 w1) (k : Below w1.heap.size w1 w2) : To S w g K e1 w2 :=
  ⟨(h.1.keep k).mono fun j _ hj => by rcases hj with hj | hj; exact .inl hj; exact .inr ⟨hj.1, Nat.lt_of_lt_of_le hj.2 k.size⟩, h.2.then_below k⟩
theorem To.of_below (h : EngAt S w g K e) (k : Below w.heap.size w w1) : To S w g K e w1 := ⟨(h.keep k).mono fun j _ hj => .inl hj, Chg.of_below k S⟩
theorem To.refl (h : EngAt S w g K e) : To S w g K e w := To.of_below h (Below.refl _ _)
theorem To.after_below (k : Below w.heap.size w w1) (h : To S w1 g K e1 w2) : To S w g K e1 w2 :=
  ⟨h.1.mono fun j _ hj => by rcases hj with hj | hj; exact .inl hj; exact .inr ⟨Nat.le_trans k.size hj.1, hj.2⟩, (Chg.of_below k S).trans h.2⟩
theorem To.of_one {ρ : Nat → Rl} {vr vl : Value} {cv : Nat → Value} (h : EngP (up S w w1) ρ w1 g e1 (K.V e1.N vr vl cv)) {T : Nat → Prop} (hc : Chg T w w1) (hT : ∀ k, T k → S k) : To S w g K e1 w1 := ⟨⟨ρ, vr, vl, cv, h⟩, hc.mono hT⟩
end
end Go.Proofs.YtbpoapfkeinjnaaGreatDoor.Ld
