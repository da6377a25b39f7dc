/- The document's ledger: its block, its items, and the functions that only read. -/
import Derived.Test.YtkldfjlbgmppfabLs
import Derived.Test.YtkldfjlbgmppfabLp2
import Derived.StillTailTactics
namespace Go.Proofs.Ytkldfjlbgmppfab.Ld
open Go.RowKit Go.Proofs.YtkldfjlbgmppfabW.PrintWords Go.Proofs.YtkldfjlbgmppfabW.PrintLast Go.Proofs.YtkldfjlbgmppfabW.PrintMore
set_option linter.unusedVariables false
set_option linter.unusedSimpArgs false
attribute [local go_sem] max2_int min2_int max_two min_two

/-- An item: id, slot, memory. -/
structure S74 where
  f0 : Int
  f1 : Int
  f2 : Int
def z74 : S74 := ⟨(0 : Int), (0 : Int), (0 : Int)⟩
def k74 : Kd S74 := Kd.iso (Kd.pair (Kd.int .i64) (Kd.pair (Kd.int .i64) (Kd.int .i64))) (fun x : S74 => (x.f0, x.f1, x.f2))
theorem k74_open {w : World} {x : S74} {cs : List Value} (h : k74.K w x cs) : cs = [.int .i64 x.f0, .int .i64 x.f1, .int .i64 x.f2] := by
  obtain ⟨_, _, rfl, rfl, ⟨_, _, rfl, rfl, rfl⟩⟩ := h
  exact rfl
theorem k74_mkM (w : World) (base : Nat) (ok : Nat → Prop) (x : S74) : k74.M w base ok x [.int .i64 x.f0, .int .i64 x.f1, .int .i64 x.f2] := ⟨[.int .i64 x.f0], [.int .i64 x.f1, .int .i64 x.f2], rfl, rfl, ⟨[.int .i64 x.f1], [.int .i64 x.f2], rfl, rfl, rfl⟩⟩
def rdi (xs : List S74) (i : Nat) : S74 := xs.getD i z74
theorem at_item {w : World} {A : Option Addr} {n : Nat} {xs : List S74} (h : Kd.C k74 w A n xs) (i : Nat) (h1 : i < n) : ∃ ad, A = some ad ∧ w.cell? (ad.add (i * 3)) = some (.int .i64 (rdi xs i).f0) ∧ w.cell? ⟨(ad.add (i * 3)).block, (ad.add (i * 3)).off + 1, none⟩ = some (.int .i64 (rdi xs i).f1) ∧ w.cell? ⟨(ad.add (i * 3)).block, (ad.add (i * 3)).off + 2, none⟩ = some (.int .i64 (rdi xs i).f2) := by
  obtain ⟨ad, c, e, _, hK, hc0⟩ := Kd.C_get h z74 (i : Int) (by omega) (by omega)
  have hc : ∀ j u, c[j]? = some u → w.cell? (ad.add (i * 3 + j)) = some u := by
    intro j u hu
    have h2 := hc0 j u hu
    rw [Int.toNat_natCast] at h2
    exact h2
  simp only [Int.toNat_natCast] at hK
  obtain rfl := k74_open hK
  exact ⟨ad, e, hc 0 _ rfl, by rw [← add_field _ _ 1 (by omega)]; exact hc 1 _ rfl, by rw [← add_field _ _ 2 (by omega)]; exact hc 2 _ rfl⟩

/-- The document's ledger at block 'g'. -/
def RefAt (w : World) (base g : Nat) (ok : Nat → Prop) (B K : Int) (xs : List S74) : Prop :=
  ∃ v, w.heap[g]? = some (.cells #[.int .i64 B, .int .i64 K, v] 35 (0, 0)) ∧ Kd.R k74 74 w base ok v xs
/-- What a read needs of it. -/
structure RefIs (w : World) (g : Nat) (B K : Int) (xs : List S74) (A : Option Addr) (c : Nat) : Prop where
  b : w.cell? ⟨g, 0, none⟩ = some (.int .i64 B)
  k : w.cell? ⟨g, 1, none⟩ = some (.int .i64 K)
  l : w.cell? ⟨g, 2, none⟩ = some (.slice A xs.length c)
  r : Kd.C k74 w A xs.length xs
  n : xs.length ≤ c
theorem RefAt.is {w : World} {base g : Nat} {ok : Nat → Prop} {B K : Int} {xs : List S74} (h : RefAt w base g ok B K xs) : ∃ A c, RefIs w g B K xs A c := by
  obtain ⟨v, hb, hr⟩ := h
  obtain ⟨A, c, rfl, hn, hc⟩ := Kd.R_reads hr
  exact ⟨A, c, (blk_cell hb 0).trans rfl, (blk_cell hb 1).trans rfl, (blk_cell hb 2).trans rfl, hc, hn⟩
theorem RefAt.below {w w1 : World} {base g : Nat} {ok : Nat → Prop} {B K : Int} {xs : List S74} (h : RefAt w base g ok B K xs) (hb : Below w.heap.size w w1) : RefAt w1 base g ok B K xs := by
  obtain ⟨v, h1, h2⟩ := h
  exact ⟨v, blk_below h1 hb, Kd.R_below h2 hb⟩
theorem RefAt.lt {w : World} {base g : Nat} {ok : Nat → Prop} {B K : Int} {xs : List S74} (h : RefAt w base g ok B K xs) : g < w.heap.size := by
  obtain ⟨v, h1, h2⟩ := h; exact blk_lt h1
theorem RefAt.touch {w w1 : World} {base g g' : Nat} {ok : Nat → Prop} {B K : Int} {xs : List S74} (h : RefAt w base g ok B K xs) (ht : Touch g' w w1) (hne : g ≠ g') (hok : ∀ k, ok k → k ≠ g') : RefAt w1 base g ok B K xs := by
  obtain ⟨v, h1, h2⟩ := h
  exact ⟨v, (ht.block g (blk_lt h1) hne).trans h1, Kd.R_keep h2 ⟨ht.size, fun i hi hn _ => ht.block i hi hn⟩ hok⟩
theorem RefAt.drawn {w w1 : World} {base g : Nat} {ok : Nat → Prop} {B K : Int} {xs : List S74} (h : RefAt w base g ok B K xs) (hd : Drawn0 w w1) : RefAt w1 base g ok B K xs := h.below hd.below
theorem At.refTouch {g g' : Nat} {s : Led} {w w1 : World} (h : Touch g' w w1) (ha : At w g s) (hne : g ≠ g') : At w1 g s := h.at ha hne

/-- The first item of which 'q' holds. -/
def fst (q : S74 → Bool) (xs : List S74) : Option S74 := xs.find? q
theorem fst_at {q : S74 → Bool} {xs : List S74} {i : Nat} (hi : i < xs.length) (h1 : q (rdi xs i) = true) (h2 : ∀ j, j < i → q (rdi xs j) = false) : fst q xs = some (rdi xs i) := by
  have e : ∀ j, j < xs.length → xs[j]? = some (rdi xs j) := fun j hj => by simp [rdi, List.getD_eq_getElem?_getD, List.getElem?_eq_getElem hj]
  unfold fst
  rw [List.find?_eq_some_iff_getElem]
  refine ⟨h1, i, hi, ?_, fun j hj => ?_⟩
  · have := e i hi; rw [List.getElem?_eq_getElem hi] at this; exact Option.some.inj this
  · have := e j (by omega); rw [List.getElem?_eq_getElem (by omega)] at this
    rw [Option.some.inj this, h2 j hj]; rfl
theorem fst_none {q : S74 → Bool} {xs : List S74} (h : ∀ j, j < xs.length → q (rdi xs j) = false) : fst q xs = none := by
  unfold fst
  rw [List.find?_eq_none]
  intro x hx
  obtain ⟨j, hj, rfl⟩ := List.getElem_of_mem hx
  have := h j hj
  simp only [rdi, List.getD_eq_getElem?_getD, List.getElem?_eq_getElem hj, Option.getD_some] at this
  rw [this]; simp
def told (f : S74 → Int) : Option S74 → Int
  | some x => f x
  | none => 0
def isIn : Option S74 → Bool
  | some _ => true
  | none => false
def sumM : List S74 → Int
  | [] => 0
  | x :: xs => x.f2 + sumM xs
theorem sumM_append (xs ys : List S74) : sumM (xs ++ ys) = sumM xs + sumM ys := by
  induction xs with
  | nil => simp [sumM]
  | cons x xs ih => simp only [List.cons_append, sumM, ih]; omega
theorem take_item (xs : List S74) (i : Nat) (h : i < xs.length) : xs.take (i + 1) = xs.take i ++ [rdi xs i] := by
  rw [List.take_succ_eq_append_getElem h]; simp [rdi, List.getD_eq_getElem?_getD, List.getElem?_eq_getElem h]

set_option maxHeartbeats 8000000 in
set_option maxRecDepth 100000 in
theorem RSlot_calls (g : Nat) (B K : Int) (xs : List S74) (A : Option Addr) (c : Nat) (id : Int) (w : World) (hr : RefIs w g B K xs A c) (hn : xs.length ≤ 1000) :
    Calls Try.prog 31 #[.pointer (some ⟨g, 0, none⟩), .int .i64 id] w fun e w' => e = .returned (.tuple #[.int .i64 (told S74.f1 (fst (fun x => x.f0 == id) xs)), .bool (isIn (fst (fun x => x.f0 == id) xs))]) ∧ Drawn0 w w' := by
  have c2 := hr.l
  have HC := Aside0.mk hr.r
  clear hr
  go_enter Try.func31, Try.ntmps31
  go_wp2
  go_loopg [6] (xs.length + 1) (fun kq v wr => (∃ i : Nat, v = .int .i64 (i : Int) ∧ Aside0 (kq + i = xs.length + 1 ∧ i ≤ xs.length ∧ ∀ j, j < i → ((rdi xs j).f0 == id) = false)) ∧ Drawn0 w wr)
  case atStart => exact ⟨⟨0, rfl, ⟨by omega, by omega, fun j hj => by omega⟩⟩, by repeat (first | exact Drawn0.refl _ | apply Drawn0.step)⟩
  case round =>
    obtain ⟨⟨i, rfl, hA⟩, ⟨m1, rfl⟩⟩ := hrel
    obtain ⟨hk, hi, hall⟩ := hA.out
    have HA := Aside0.mk hall
    clear hA hall
    by_cases hlt : i < xs.length
    · obtain ⟨ad, rfl, d0, d1, d2⟩ := at_item HC.out i hlt
      have p1 : (0 ≤ (i : Int)) = True := eq_true (by omega)
      have p2 : ((i : Int) < (xs.length : Int)) = True := eq_true (by omega)
      generalize hz : rdi xs i = z at d0 d1 d2
      have HZ := Aside0.mk hz
      clear hz
      by_cases hq : z.f0 = id
      · have HF : Aside0 (fst (fun x => x.f0 == id) xs = some z) := ⟨by rw [← HZ.out]; exact fst_at hlt (by rw [HZ.out]; simp [hq]) HA.out⟩
        have hq2 : (z.f0 == id) = true := by simp [hq]
        clear hq
        go_wp2
        go_ret2
        exact ⟨by rw [HF.out]; rfl, by repeat (first | exact Drawn0.refl _ | apply Drawn0.step)⟩
      · have hq2 : (z.f0 == id) = false := by simp [hq]
        go_wp2
        go_roundg (gk - 1)
        case measure => omega
        case rel =>
          refine ⟨⟨i + 1, rfl, ⟨by omega, by omega, fun j hj => ?_⟩⟩, by repeat (first | exact Drawn0.refl _ | apply Drawn0.step)⟩
          rcases Nat.lt_succ_iff_lt_or_eq.1 hj with h | rfl
          · exact HA.out j h
          · rw [HZ.out]; exact hq2
    · have HF : Aside0 (fst (fun x => x.f0 == id) xs = none) := ⟨fst_none (fun j hj => HA.out j (by omega))⟩
      go_wp2
      go_ret2
      exact ⟨by rw [HF.out]; rfl, by repeat (first | exact Drawn0.refl _ | apply Drawn0.step)⟩

set_option maxHeartbeats 8000000 in
set_option maxRecDepth 100000 in
theorem RAt_calls (g : Nat) (B K : Int) (xs : List S74) (A : Option Addr) (c : Nat) (id : Int) (w : World) (hr : RefIs w g B K xs A c) (hn : xs.length ≤ 1000) :
    Calls Try.prog 38 #[.pointer (some ⟨g, 0, none⟩), .int .i64 id] w fun e w' => e = .returned (.tuple #[.int .i64 (told S74.f0 (fst (fun x => x.f1 == id) xs)), .bool (isIn (fst (fun x => x.f1 == id) xs))]) ∧ Drawn0 w w' := by
  have c2 := hr.l
  have HC := Aside0.mk hr.r
  clear hr
  go_enter Try.func38, Try.ntmps38
  go_wp2
  go_loopg [6] (xs.length + 1) (fun kq v wr => (∃ i : Nat, v = .int .i64 (i : Int) ∧ Aside0 (kq + i = xs.length + 1 ∧ i ≤ xs.length ∧ ∀ j, j < i → ((rdi xs j).f1 == id) = false)) ∧ Drawn0 w wr)
  case atStart => exact ⟨⟨0, rfl, ⟨by omega, by omega, fun j hj => by omega⟩⟩, by repeat (first | exact Drawn0.refl _ | apply Drawn0.step)⟩
  case round =>
    obtain ⟨⟨i, rfl, hA⟩, ⟨m1, rfl⟩⟩ := hrel
    obtain ⟨hk, hi, hall⟩ := hA.out
    have HA := Aside0.mk hall
    clear hA hall
    by_cases hlt : i < xs.length
    · obtain ⟨ad, rfl, d0, d1, d2⟩ := at_item HC.out i hlt
      have p1 : (0 ≤ (i : Int)) = True := eq_true (by omega)
      have p2 : ((i : Int) < (xs.length : Int)) = True := eq_true (by omega)
      generalize hz : rdi xs i = z at d0 d1 d2
      have HZ := Aside0.mk hz
      clear hz
      by_cases hq : z.f1 = id
      · have HF : Aside0 (fst (fun x => x.f1 == id) xs = some z) := ⟨by rw [← HZ.out]; exact fst_at hlt (by rw [HZ.out]; simp [hq]) HA.out⟩
        have hq2 : (z.f1 == id) = true := by simp [hq]
        clear hq
        go_wp2
        go_ret2
        exact ⟨by rw [HF.out]; rfl, by repeat (first | exact Drawn0.refl _ | apply Drawn0.step)⟩
      · have hq2 : (z.f1 == id) = false := by simp [hq]
        go_wp2
        go_roundg (gk - 1)
        case measure => omega
        case rel =>
          refine ⟨⟨i + 1, rfl, ⟨by omega, by omega, fun j hj => ?_⟩⟩, by repeat (first | exact Drawn0.refl _ | apply Drawn0.step)⟩
          rcases Nat.lt_succ_iff_lt_or_eq.1 hj with h | rfl
          · exact HA.out j h
          · rw [HZ.out]; exact hq2
    · have HF : Aside0 (fst (fun x => x.f1 == id) xs = none) := ⟨fst_none (fun j hj => HA.out j (by omega))⟩
      go_wp2
      go_ret2
      exact ⟨by rw [HF.out]; rfl, by repeat (first | exact Drawn0.refl _ | apply Drawn0.step)⟩

set_option maxHeartbeats 8000000 in
set_option maxRecDepth 100000 in
theorem RUsed_calls (g : Nat) (B K : Int) (xs : List S74) (A : Option Addr) (c : Nat) (w : World) (hr : RefIs w g B K xs A c) (hn : xs.length ≤ 1000) (hs : ∀ i, i < xs.length → 0 ≤ (rdi xs i).f2) (hm : ∀ i, i ≤ xs.length → 0 ≤ sumM (xs.take i) ∧ sumM (xs.take i) ≤ 9223372036854775807) :
    Calls Try.prog 33 #[.pointer (some ⟨g, 0, none⟩)] w fun e w' => e = .returned (.int .i64 (sumM xs)) ∧ Drawn0 w w' := by
  have c2 := hr.l
  have HC := Aside0.mk hr.r
  have HS := Aside0.mk hs
  have HM := Aside0.mk hm
  clear hr hs hm
  go_enter Try.func33, Try.ntmps33
  go_wp2
  go_loopg [3, 4] (xs.length + 1) (fun kq v3 v wr => (∃ (i : Nat) (T : Int), v = .int .i64 (i : Int) ∧ v3 = .int .i64 T ∧ Aside0 (kq + i = xs.length + 1 ∧ i ≤ xs.length ∧ T = sumM (xs.take i))) ∧ Drawn0 w wr)
  case atStart => exact ⟨⟨0, 0, rfl, rfl, ⟨by omega, by omega, rfl⟩⟩, by repeat (first | exact Drawn0.refl _ | apply Drawn0.step)⟩
  case round =>
    obtain ⟨⟨i, T, rfl, rfl, hA⟩, ⟨m1, rfl⟩⟩ := hrel
    obtain ⟨hk, hi, hT⟩ := hA.out
    have HT := Aside0.mk hT
    clear hA hT
    by_cases hlt : i < xs.length
    · obtain ⟨ad, rfl, d0, d1, d2⟩ := at_item HC.out i hlt
      have p1 : (0 ≤ (i : Int)) = True := eq_true (by omega)
      have p2 : ((i : Int) < (xs.length : Int)) = True := eq_true (by omega)
      have t0 := (HM.out i (by omega)).1
      have t1 := HS.out i hlt
      have t2 := (HM.out (i + 1) (by omega)).2
      have e2 : sumM (xs.take (i + 1)) = sumM (xs.take i) + (rdi xs i).f2 := by rw [take_item xs i hlt, sumM_append]; simp [sumM]
      rw [e2, ← HT.out] at t2
      rw [← HT.out] at t0
      have E2 := Aside0.mk e2
      clear e2
      generalize hz : rdi xs i = z at d0 d1 d2 t1 t2
      have HZ := Aside0.mk hz
      clear hz
      go_wp2
      go_roundg (gk - 1)
      case measure => omega
      case rel => exact ⟨⟨i + 1, T + z.f2, rfl, rfl, ⟨by omega, by omega, by rw [E2.out, HZ.out, HT.out]⟩⟩, by repeat (first | exact Drawn0.refl _ | apply Drawn0.step)⟩
    · have HF : Aside0 (T = sumM xs) := ⟨by rw [HT.out, List.take_of_length_le (by omega)]⟩
      go_wp2
      go_ret
      exact ⟨by rw [← HF.out]; rfl, by repeat (first | exact Drawn0.refl _ | apply Drawn0.step)⟩

def cap16 (K : Int) : Int := if 16 < Ld.pos K then 16 else Ld.pos K
set_option maxHeartbeats 8000000 in
set_option maxRecDepth 100000 in
theorem RSlots_calls (g : Nat) (B K : Int) (xs : List S74) (A : Option Addr) (c : Nat) (w : World) (hr : RefIs w g B K xs A c) (hn : xs.length ≤ 1000) :
    Calls Try.prog 36 #[.pointer (some ⟨g, 0, none⟩)] w fun e w' => e = .returned (.int .i64 (cap16 K - xs.length)) ∧ Drawn0 w w' := by
  have c1 := hr.k
  have c2 := hr.l
  clear hr
  have hq : Ld.pos K = if K < 0 then 0 else K := rfl
  have hc : cap16 K = if 16 < Ld.pos K then 16 else Ld.pos K := rfl
  obtain ⟨C, hC⟩ : ∃ C, cap16 K = C := ⟨_, rfl⟩
  rw [hC] at hc ⊢
  by_cases hs0 : K < 0
  · rw [if_pos hs0] at hq
    rw [hq, if_neg (by omega)] at hc
    subst hc
    clear hq hC
    go_enter Try.func36, Try.ntmps36
    go_wp2
    go_quiet (fail)
    go_wp2
    go_ret
    exact ⟨by rw [Int.zero_sub]; rfl, by repeat (first | exact Drawn0.refl _ | apply Drawn0.step)⟩
  · rw [if_neg hs0] at hq
    by_cases hs1 : 16 < K
    · rw [hq, if_pos hs1] at hc
      subst hc
      clear hq hC
      go_enter Try.func36, Try.ntmps36
      go_wp2
      go_quiet (fail)
      go_wp2
      go_ret
      exact ⟨rfl, by repeat (first | exact Drawn0.refl _ | apply Drawn0.step)⟩
    · rw [hq, if_neg hs1] at hc
      have hKC := Aside0.mk hc
      clear hq hC hc
      go_enter Try.func36, Try.ntmps36
      go_wp2
      go_quiet (fail)
      go_wp2
      go_ret
      exact ⟨by rw [hKC.out]; rfl, by repeat (first | exact Drawn0.refl _ | apply Drawn0.step)⟩
end Go.Proofs.Ytkldfjlbgmppfab.Ld
