/- The ledger's contracts under the invariant; a step as an element; the laws' first question ('shown'). -/
import Derived.Test.YtkldfjlbgmppfabLp
namespace Go.Proofs.Ytkldfjlbgmppfab.Ld
open Go.RowKit Go.Proofs.YtkldfjlbgmppfabW.PrintWords Go.Proofs.YtkldfjlbgmppfabW.PrintLast Go.Proofs.YtkldfjlbgmppfabW.PrintMore
set_option linter.unusedVariables false
set_option linter.unusedSimpArgs false
attribute [local go_sem] max2_int min2_int max_two min_two

/-! A step of the laws. -/
structure S37 where
  f0 : Int
  f1 : Int
  f2 : Int
def z37 : S37 := ⟨(0 : Int), (0 : Int), (0 : Int)⟩
def k37 : Kd S37 := Kd.iso (Kd.pair (Kd.int .i64) (Kd.pair (Kd.int .i64) (Kd.int .i64))) (fun x : S37 => (x.f0, x.f1, x.f2))
theorem k37_open {w : World} {x : S37} {cs : List Value} (h : k37.K w x cs) : cs = [.int .i64 x.f0, .int .i64 x.f1, .int .i64 x.f2] := by
  obtain ⟨_, _, rfl, rfl, ⟨_, _, rfl, rfl, rfl⟩⟩ := h
  exact rfl
theorem k37_mk (w : World) (x : S37) : k37.K w x [.int .i64 x.f0, .int .i64 x.f1, .int .i64 x.f2] := ⟨[.int .i64 x.f0], [.int .i64 x.f1, .int .i64 x.f2], rfl, rfl, ⟨[.int .i64 x.f1], [.int .i64 x.f2], rfl, rfl, rfl⟩⟩
def rds (xs : List S37) (i : Int) : S37 := xs.getD i.toNat z37
theorem at_step {w : World} {A : Option Addr} {n : Nat} {xs : List S37} (h : Kd.C k37 w A n xs) (i : Int) (h0 : 0 ≤ i) (h1 : i < n) : ∃ ad, A = some ad ∧ w.cell? (ad.add (i.toNat * 3)) = some (.int .i64 (rds xs i).f0) ∧ w.cell? ⟨(ad.add (i.toNat * 3)).block, (ad.add (i.toNat * 3)).off + 1, none⟩ = some (.int .i64 (rds xs i).f1) ∧ w.cell? ⟨(ad.add (i.toNat * 3)).block, (ad.add (i.toNat * 3)).off + 2, none⟩ = some (.int .i64 (rds xs i).f2) := by
  obtain ⟨ad, c, e, _, hK, hc0⟩ := Kd.C_get h z37 i h0 h1
  have hc : ∀ j u, c[j]? = some u → w.cell? (ad.add (i.toNat * 3 + j)) = some u := hc0
  obtain rfl := k37_open hK
  exact ⟨ad, e, hc 0 _ rfl, by rw [← add_field _ _ 1 (by omega)]; exact hc 1 _ rfl, by rw [← add_field _ _ 2 (by omega)]; exact hc 2 _ rfl⟩

/-! Contracts whose answers are letters. -/
theorem Take_r {g : Nat} {s : Led} {id mem n e : Int} (hs : Inv s) (h1 : takeSlot s id mem = n) (h2 : takeErr s id mem = e) (w : World) (ha : At w g s) : Calls Try.prog 26 #[.pointer (some ⟨g, 0, none⟩), .int .i64 id, .int .i64 mem] w fun r w' => r = .returned (.tuple #[.int .i64 n, .int .i64 e]) ∧ At w' g (takeSt s id mem) ∧ Touch g w w' := by
  subst h1 h2; exact Take_calls g s hs.fits id mem w ha
theorem Free_r {g : Nat} {s : Led} {id e : Int} (hs : Inv s) (h2 : freeErr s id = e) (w : World) (ha : At w g s) : Calls Try.prog 28 #[.pointer (some ⟨g, 0, none⟩), .int .i64 id] w fun r w' => r = .returned (.int .i64 e) ∧ At w' g (freeSt s id) ∧ Touch g w w' := by
  subst h2; exact Free_calls g s hs.fits id w ha
theorem Slots_r {g : Nat} {s : Led} {n : Int} (hs : Inv s) (h : slots s = n) (w : World) (ha : At w g s) : Calls Try.prog 35 #[.pointer (some ⟨g, 0, none⟩)] w fun r w' => r = .returned (.int .i64 n) ∧ Below w.heap.size w w' := by
  subst h; exact Slots_calls g s hs.many w ha
theorem Used_r {g : Nat} {s : Led} {n : Int} (h : s.used = n) (w : World) (ha : At w g s) : Calls Try.prog 32 #[.pointer (some ⟨g, 0, none⟩)] w fun r w' => r = .returned (.int .i64 n) ∧ Drawn0 w w' := by
  subst h; exact Used_calls g s w ha
theorem RoomI_r {g : Nat} {s : Led} {n : Int} (hs : Inv s) (h : s.budget - s.used = n) (w : World) (ha : At w g s) : Calls Try.prog 34 #[.pointer (some ⟨g, 0, none⟩)] w fun r w' => r = .returned (.int .i64 n) ∧ Drawn0 w w' := by
  subst h; exact Room_calls g s w ha hs.pos hs.le hs.big
theorem At_r {g : Nat} {s : Led} {k a : Int} {b : Bool} (hs : Inv s) (h1 : atI s k = a) (h2 : atB s k = b) (w : World) (ha : At w g s) : Calls Try.prog 37 #[.pointer (some ⟨g, 0, none⟩), .int .i64 k] w fun r w' => r = .returned (.tuple #[.int .i64 a, .bool b]) ∧ Below w.heap.size w w' := by
  subst h1 h2; exact At_calls g s hs.many k w ha
theorem At.drawn {w w1 : World} {g : Nat} {s : Led} (h : At w g s) (hd : Drawn0 w w1) : At w1 g s := h.below hd.below

def s0 : Led := fresh 10 2
def s1 : Led := takeSt s0 7 6
def s2 : Led := takeSt s1 8 4
def s3 : Led := freeSt s2 7
def s4 : Led := takeSt s3 9 6
theorem i0 : Inv s0 := inv_fresh _ _ (by omega)
theorem i1 : Inv s1 := inv_take i0 _ _
theorem i2 : Inv s2 := inv_take i1 _ _
theorem i3 : Inv s3 := inv_free i2 _
theorem i4 : Inv s4 := inv_take i3 _ _

theorem sh0 (g : Nat) (w : World) (ha : At w g s0) : Calls Try.prog 26 #[.pointer (some ⟨g, 0, none⟩), .int .i64 7, .int .i64 6] w fun r w' => r = .returned (.tuple #[.int .i64 0, .int .i64 0]) ∧ At w' g s1 ∧ Touch g w w' := Take_r i0 (n := 0) (e := 0) rfl rfl w ha
theorem sh1 (g : Nat) (w : World) (ha : At w g s1) : Calls Try.prog 26 #[.pointer (some ⟨g, 0, none⟩), .int .i64 8, .int .i64 5] w fun r w' => r = .returned (.tuple #[.int .i64 0, .int .i64 4]) ∧ At w' g s1 ∧ Touch g w w' := Take_r i1 (n := 0) (e := 4) rfl rfl w ha
theorem sh2 (g : Nat) (w : World) (ha : At w g s1) : Calls Try.prog 26 #[.pointer (some ⟨g, 0, none⟩), .int .i64 8, .int .i64 4] w fun r w' => r = .returned (.tuple #[.int .i64 1, .int .i64 0]) ∧ At w' g s2 ∧ Touch g w w' := Take_r i1 (n := 1) (e := 0) rfl rfl w ha
theorem sh3 (g : Nat) (w : World) (ha : At w g s2) : Calls Try.prog 26 #[.pointer (some ⟨g, 0, none⟩), .int .i64 9, .int .i64 0] w fun r w' => r = .returned (.tuple #[.int .i64 0, .int .i64 4]) ∧ At w' g s2 ∧ Touch g w w' := Take_r i2 (n := 0) (e := 4) rfl rfl w ha
theorem sh4 (g : Nat) (w : World) (ha : At w g s2) : Calls Try.prog 26 #[.pointer (some ⟨g, 0, none⟩), .int .i64 7, .int .i64 1] w fun r w' => r = .returned (.tuple #[.int .i64 0, .int .i64 8]) ∧ At w' g s2 ∧ Touch g w w' := Take_r i2 (n := 0) (e := 8) rfl rfl w ha
theorem sh5 (g : Nat) (w : World) (ha : At w g s2) : Calls Try.prog 26 #[.pointer (some ⟨g, 0, none⟩), .int .i64 7, .int .i64 11] w fun r w' => r = .returned (.tuple #[.int .i64 0, .int .i64 5]) ∧ At w' g s2 ∧ Touch g w w' := Take_r i2 (n := 0) (e := 5) rfl rfl w ha
theorem sh6 (g : Nat) (w : World) (ha : At w g s2) : Calls Try.prog 34 #[.pointer (some ⟨g, 0, none⟩)] w fun r w' => r = .returned (.int .i64 0) ∧ Drawn0 w w' := RoomI_r i2 (n := 0) rfl w ha
theorem sh7 (g : Nat) (w : World) (ha : At w g s2) : Calls Try.prog 28 #[.pointer (some ⟨g, 0, none⟩), .int .i64 7] w fun r w' => r = .returned (.int .i64 0) ∧ At w' g s3 ∧ Touch g w w' := Free_r i2 (e := 0) rfl w ha
theorem sh8 (g : Nat) (w : World) (ha : At w g s3) : Calls Try.prog 28 #[.pointer (some ⟨g, 0, none⟩), .int .i64 7] w fun r w' => r = .returned (.int .i64 6) ∧ At w' g s3 ∧ Touch g w w' := Free_r i3 (e := 6) rfl w ha
theorem sh9 (g : Nat) (w : World) (ha : At w g s3) : Calls Try.prog 26 #[.pointer (some ⟨g, 0, none⟩), .int .i64 9, .int .i64 6] w fun r w' => r = .returned (.tuple #[.int .i64 0, .int .i64 0]) ∧ At w' g s4 ∧ Touch g w w' := Take_r i3 (n := 0) (e := 0) rfl rfl w ha
theorem sh10 (g : Nat) (w : World) (ha : At w g s4) : Calls Try.prog 37 #[.pointer (some ⟨g, 0, none⟩), .int .i64 0] w fun r w' => r = .returned (.tuple #[.int .i64 9, .bool true]) ∧ Below w.heap.size w w' := At_r i4 (a := 9) (b := true) rfl rfl w ha
theorem sh11 (g : Nat) (w : World) (ha : At w g s4) : Calls Try.prog 32 #[.pointer (some ⟨g, 0, none⟩)] w fun r w' => r = .returned (.int .i64 10) ∧ Drawn0 w w' := Used_r (s := s4) (n := 10) rfl w ha
theorem sh12 (g : Nat) (w : World) (ha : At w g s4) : Calls Try.prog 35 #[.pointer (some ⟨g, 0, none⟩)] w fun r w' => r = .returned (.int .i64 0) ∧ Below w.heap.size w w' := Slots_r i4 (n := 0) rfl w ha
set_option maxHeartbeats 8000000 in
set_option maxRecDepth 100000 in
theorem shown_calls (w : World) : Calls Try.prog 24 #[] w fun e w' => e = .returned (.bool true) ∧ Below w.heap.size w w' := by
  go_enter Try.func24, Try.ntmps24
  go_wp2_with (first
    | (go_at_call 25; (with_reducible refine (New_calls 10 2 _).mono ?_); rintro e w1 ⟨rfl, hA, hB⟩; have h1 := Aside0.mk hA; have b1 := Aside0.mk hB; clear hA hB)
    | (go_at_call 26; (with_reducible refine (sh0 _ _ ?ha).mono ?_); (case ha => exact h1.out); rintro e w2 ⟨rfl, hA, hT⟩; have h2 := Aside0.mk hA; have b2 := Aside0.mk (hT.below b1.out (Nat.le_refl _) (Nat.le_refl _)); clear hA hT)
    | (go_at_call 26; (with_reducible refine (sh1 _ _ ?ha).mono ?_); (case ha => exact h2.out); rintro e w3 ⟨rfl, hA, hT⟩; have h3 := Aside0.mk hA; have b3 := Aside0.mk (hT.below b2.out (Nat.le_refl _) (Nat.le_refl _)); clear hA hT)
    | (go_at_call 26; (with_reducible refine (sh2 _ _ ?ha).mono ?_); (case ha => exact h3.out); rintro e w4 ⟨rfl, hA, hT⟩; have h4 := Aside0.mk hA; have b4 := Aside0.mk (hT.below b3.out (Nat.le_refl _) (Nat.le_refl _)); clear hA hT)
    | (go_at_call 26; (with_reducible refine (sh3 _ _ ?ha).mono ?_); (case ha => exact h4.out); rintro e w5 ⟨rfl, hA, hT⟩; have h5 := Aside0.mk hA; have b5 := Aside0.mk (hT.below b4.out (Nat.le_refl _) (Nat.le_refl _)); clear hA hT)
    | (go_at_call 26; (with_reducible refine (sh4 _ _ ?ha).mono ?_); (case ha => exact h5.out); rintro e w6 ⟨rfl, hA, hT⟩; have h6 := Aside0.mk hA; have b6 := Aside0.mk (hT.below b5.out (Nat.le_refl _) (Nat.le_refl _)); clear hA hT)
    | (go_at_call 26; (with_reducible refine (sh5 _ _ ?ha).mono ?_); (case ha => exact h6.out); rintro e w7 ⟨rfl, hA, hT⟩; have h7 := Aside0.mk hA; have b7 := Aside0.mk (hT.below b6.out (Nat.le_refl _) (Nat.le_refl _)); clear hA hT)
    | (go_at_call 34; (with_reducible refine (sh6 _ _ ?ha).mono ?_); (case ha => exact h7.out); rintro e w8 ⟨rfl, hD⟩; have h8 := Aside0.mk (h7.out.drawn hD); have b8 := Aside0.mk (below_step b7.out hD.below); clear hD)
    | (go_at_call 28; (with_reducible refine (sh7 _ _ ?ha).mono ?_); (case ha => exact h8.out); rintro e w9 ⟨rfl, hA, hT⟩; have h9 := Aside0.mk hA; have b9 := Aside0.mk (hT.below b8.out (Nat.le_refl _) (Nat.le_refl _)); clear hA hT)
    | (go_at_call 28; (with_reducible refine (sh8 _ _ ?ha).mono ?_); (case ha => exact h9.out); rintro e w10 ⟨rfl, hA, hT⟩; have h10 := Aside0.mk hA; have b10 := Aside0.mk (hT.below b9.out (Nat.le_refl _) (Nat.le_refl _)); clear hA hT)
    | (go_at_call 26; (with_reducible refine (sh9 _ _ ?ha).mono ?_); (case ha => exact h10.out); rintro e w11 ⟨rfl, hA, hT⟩; have h11 := Aside0.mk hA; have b11 := Aside0.mk (hT.below b10.out (Nat.le_refl _) (Nat.le_refl _)); clear hA hT)
    | (go_at_call 37; (with_reducible refine (sh10 _ _ ?ha).mono ?_); (case ha => exact h11.out); rintro e w12 ⟨rfl, hB⟩; have h12 := Aside0.mk (h11.out.below hB); have b12 := Aside0.mk (below_step b11.out hB); clear hB)
    | (go_at_call 32; (with_reducible refine (sh11 _ _ ?ha).mono ?_); (case ha => exact h12.out); rintro e w13 ⟨rfl, hD⟩; have h13 := Aside0.mk (h12.out.drawn hD); have b13 := Aside0.mk (below_step b12.out hD.below); clear hD)
    | (go_at_call 35; (with_reducible refine (sh12 _ _ ?ha).mono ?_); (case ha => exact h13.out); rintro e w14 ⟨rfl, hB⟩; have h14 := Aside0.mk (h13.out.below hB); have b14 := Aside0.mk (below_step b13.out hB); clear hB))
  go_ret
  exact ⟨rfl, by repeat (first | exact b14.out | apply below_alloc | apply below_drew1 | apply pw_below_drewN)⟩
end Go.Proofs.Ytkldfjlbgmppfab.Ld
