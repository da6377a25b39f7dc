/- LedgerPlays: the document's answers in the ledger's words; the walk of the law. -/
import Derived.Test.YtkldfjlbgmppfabLr3
namespace Go.Proofs.Ytkldfjlbgmppfab.Ld
open Go.RowKit Go.Proofs.YtkldfjlbgmppfabW.PrintWords Go.Proofs.YtkldfjlbgmppfabW.PrintLast Go.Proofs.YtkldfjlbgmppfabW.PrintMore
set_option linter.unusedVariables false
set_option linter.unusedSimpArgs false
attribute [local go_sem] max2_int min2_int max_two min_two
theorem Touch.undrew {g : Nat} {w w1 : World} (h : Touch g w.drew w1) : Touch g w w1 := ⟨h.os, h.tape, h.output, h.size, h.block⟩
theorem RSlot_r {g base : Nat} {ok : Nat → Prop} {B K a id : Int} {b : Bool} {s : Led} {xs : List S74} (hs : Inv s) (hrel : Rel s xs) (h1 : slotI s id = a) (h2 : slotB s id = b) (w : World) (href : RefAt w base g ok B K xs) :
    Calls Try.prog 31 #[.pointer (some ⟨g, 0, none⟩), .int .i64 id] w fun e w' => e = .returned (.tuple #[.int .i64 a, .bool b]) ∧ Drawn0 w w' := by
  obtain ⟨A, c, his⟩ := href.is
  have h := hrel.slot hs id
  have := RSlot_calls g B K xs A c id w his (by have := hrel.le hs; omega)
  rw [h.1, h.2, h1, h2] at this
  exact this
theorem RAt_r {g base : Nat} {ok : Nat → Prop} {B K a k : Int} {b : Bool} {s : Led} {xs : List S74} (hs : Inv s) (hrel : Rel s xs) (h1 : atI s k = a) (h2 : atB s k = b) (w : World) (href : RefAt w base g ok B K xs) :
    Calls Try.prog 38 #[.pointer (some ⟨g, 0, none⟩), .int .i64 k] w fun e w' => e = .returned (.tuple #[.int .i64 a, .bool b]) ∧ Drawn0 w w' := by
  obtain ⟨A, c, his⟩ := href.is
  have h := hrel.at hs k
  have := RAt_calls g B K xs A c k w his (by have := hrel.le hs; omega)
  rw [h.1, h.2, h1, h2] at this
  exact this
theorem RUsed_r {g base : Nat} {ok : Nat → Prop} {B K u : Int} {s : Led} {xs : List S74} (hs : Inv s) (hrel : Rel s xs) (h1 : s.used = u) (w : World) (href : RefAt w base g ok B K xs) :
    Calls Try.prog 33 #[.pointer (some ⟨g, 0, none⟩)] w fun e w' => e = .returned (.int .i64 u) ∧ Drawn0 w w' := by
  obtain ⟨A, c, his⟩ := href.is
  have hnn := hrel.nonneg hs
  have := RUsed_calls g B K xs A c w his (by have := hrel.le hs; omega) (fun i hi => hnn _ (rdi_mem hi)) (fun i _ => by
    have h := sumM_take hnn i
    rw [hrel.sum] at h
    have := hs.le
    have := hs.big
    omega)
  rw [hrel.sum, h1] at this
  exact this
theorem RSlots_r {g base : Nat} {ok : Nat → Prop} {B K f : Int} {s : Led} {xs : List S74} (hs : Inv s) (hrel : Rel s xs) (hcap : cap16 K = (s.many : Int)) (h1 : slots s = f) (w : World) (href : RefAt w base g ok B K xs) :
    Calls Try.prog 36 #[.pointer (some ⟨g, 0, none⟩)] w fun e w' => e = .returned (.int .i64 f) ∧ Drawn0 w w' := by
  obtain ⟨A, c, his⟩ := href.is
  have := RSlots_calls g B K xs A c w his (by have := hrel.le hs; omega)
  have h2 := hrel.len
  rw [show cap16 K - (xs.length : Int) = f by rw [hcap, ← h1]; omega] at this
  exact this
theorem pos_cases (b : Int) : (b < 0 ∧ Ld.pos b = 0) ∨ (0 ≤ b ∧ Ld.pos b = b) := by
  unfold Ld.pos; split
  · left; omega
  · right; omega
theorem RTake_r {g base : Nat} {ok : Nat → Prop} {B K n er id mem : Int} {s : Led} {xs : List S74} (hs : Inv s) (hrel : Rel s xs) (hcap : cap16 K = (s.many : Int)) (hsb : s.budget = Ld.pos B) (h1 : takeSlot s id mem = n) (h2 : takeErr s id mem = er) (w : World) (href : RefAt w base g ok B K xs) (hb : base ≤ w.heap.size) (hok : ∀ k, w.heap.size ≤ k → ok k) :
    Calls Try.prog 27 #[.pointer (some ⟨g, 0, none⟩), .int .i64 id, .int .i64 mem] w (RefPost g base ok B K (takeSt s id mem) (.tuple #[.int .i64 n, .int .i64 er]) w) := by
  have := RTake_calls g base ok B K (Ld.pos B) s xs id mem w hs hrel href hb hok (pos_cases B) hsb hcap
  rw [h1, h2] at this
  exact this
theorem RFree_r {g base : Nat} {ok : Nat → Prop} {B K er id : Int} {s : Led} {xs : List S74} (hs : Inv s) (hrel : Rel s xs) (h2 : freeErr s id = er) (w : World) (href : RefAt w base g ok B K xs) (hb : base ≤ w.heap.size) (hok : ∀ k, w.heap.size ≤ k → ok k) :
    Calls Try.prog 29 #[.pointer (some ⟨g, 0, none⟩), .int .i64 id] w (RefPost g base ok B K (freeSt s id) (.int .i64 er) w) := by
  have := RFree_calls g base ok B K s xs id w hs hrel href hb hok
  rw [h2] at this
  exact this
/-- All that LedgerPlays keeps. -/
def Both (base g gr : Nat) (B K : Int) (s : Led) (xs : List S74) (wr : World) : Prop :=
  Inv s ∧ s.budget = Ld.pos B ∧ cap16 K = (s.many : Int) ∧ Rel s xs ∧ At wr g s ∧ RefAt wr base gr (fun k => k ≠ g ∧ k ≠ gr) B K xs
theorem Both.below {base g gr : Nat} {B K : Int} {s : Led} {xs : List S74} {w w1 : World} (h : Both base g gr B K s xs w) (hb : Below w.heap.size w w1) : Both base g gr B K s xs w1 := by
  obtain ⟨h1, h2, h3, h4, h5, h6⟩ := h
  exact ⟨h1, h2, h3, h4, h5.below hb, h6.below hb⟩
theorem Both.drawn {base g gr : Nat} {B K : Int} {s : Led} {xs : List S74} {w w1 : World} (h : Both base g gr B K s xs w) (hd : Drawn0 w w1) : Both base g gr B K s xs w1 := h.below hd.below
end Go.Proofs.Ytkldfjlbgmppfab.Ld
