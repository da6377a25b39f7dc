/- The engine of the yard and what it leans on, part 4. -/
import Derived.Test.YtbpoapfkeinjnaaGreatDoorK03
namespace Go.Proofs.YtbpoapfkeinjnaaGreatDoor.Ld
open Go.RowKit Go.Proofs.YtbpoapfkeinjnaaGreatDoorW.PrintWords Go.Proofs.YtbpoapfkeinjnaaGreatDoorW.PrintLast Go.Proofs.YtbpoapfkeinjnaaGreatDoorW.PrintMore
set_option linter.unusedVariables false
set_option linter.unusedSimpArgs false

def Keep (S : Nat → Prop) (w w' : World) : Prop := ∀ k, k < w.heap.size → S k → w'.heap[k]? = w.heap[k]?
theorem Keep.of_chg {S T : Nat → Prop} {w w' : World} (h : Chg T w w') (hd : ∀ k, S k → ¬ T k) : Keep S w w' := fun k hk hs => h.block k hk (hd k hs)
theorem Keep.of_below {S : Nat → Prop} {w w' : World} (h : Below w.heap.size w w') : Keep S w w' := fun k hk _ => h.block k hk
def up (S : Nat → Prop) (w w' : World) : Nat → Prop := fun k => S k ∨ (w.heap.size ≤ k ∧ k < w'.heap.size)
theorem up_old {S : Nat → Prop} {w w' : World} (k : Nat) (h : S k) : up S w w' k := .inl h
theorem up_up {S : Nat → Prop} {w w1 w2 : World} (h1 : w.heap.size ≤ w1.heap.size) (h2 : w1.heap.size ≤ w2.heap.size) (k : Nat) (h : up (up S w w1) w1 w2 k) : up S w w2 k := by
  rcases h with (h | h) | h
  · exact .inl h
  · exact .inr (by omega)
  · exact .inr (by omega)
theorem Chg.refl (S : Nat → Prop) (w : World) : Chg S w w := ⟨rfl, rfl, rfl, Nat.le_refl _, fun _ _ _ => rfl⟩
theorem Chg.drewN {S : Nat → Prop} {w w1 : World} (h : Chg S w w1) (n : Nat) : Chg S w (w1.drewN n) := ⟨h.os, h.tape, h.output, h.size, h.block⟩
theorem Chg.drew {S : Nat → Prop} {w w1 : World} (h : Chg S w w1) : Chg S w w1.drew := ⟨h.os, h.tape, h.output, h.size, h.block⟩
theorem Chg.alloc {S : Nat → Prop} {w w1 : World} (h : Chg S w w1) (o : Obj) : Chg S w (w1.alloc o) := h.trans (Chg.of_below (below_alloc (Below.refl _ w1) o) S)
theorem Chg.then_below {S : Nat → Prop} {w w1 w2 : World} (h : Chg S w w1) (k : Below w1.heap.size w1 w2) : Chg S w w2 := h.trans (Chg.of_below k S)
theorem Chg.then_up {S : Nat → Prop} {w w1 w2 : World} (h : Chg S w w1) (k : Chg (up S w w1) w1 w2) : Chg S w w2 :=
  ⟨k.os.trans h.os, k.tape.trans h.tape, k.output.trans h.output, Nat.le_trans h.size k.size, fun i hi hn => (k.block i (Nat.lt_of_lt_of_le hi h.size) (fun e => by rcases e with e | e; exact hn e; omega)).trans (h.block i hi hn)⟩
theorem Chg.then_own {S T : Nat → Prop} {w w1 w2 : World} (h : Chg S w w1) (k : Chg T w1 w2) (hT : ∀ i, T i → S i ∨ w.heap.size ≤ i) : Chg S w w2 :=
  ⟨k.os.trans h.os, k.tape.trans h.tape, k.output.trans h.output, Nat.le_trans h.size k.size, fun i hi hn => (k.block i (Nat.lt_of_lt_of_le hi h.size) (fun e => by rcases hT i e with e | e; exact hn e; omega)).trans (h.block i hi hn)⟩
theorem Chg.to_below {S : Nat → Prop} {w w1 w2 : World} (h : Below w.heap.size w w1) (k : Chg S w1 w2) (hS : ∀ i, S i → w.heap.size ≤ i) : Below w.heap.size w w2 :=
  ⟨k.os.trans h.os, k.tape.trans h.tape, k.output.trans h.output, Nat.le_trans h.size k.size, fun i hi => (k.block i (Nat.lt_of_lt_of_le hi h.size) (fun e => by have := hS i e; omega)).trans (h.block i hi)⟩

structure RowAt (S : Nat → Prop) (w : World) (e : TypeId) (sz : Nat) (v : Value) (n : Nat) (xs : List Value) : Prop where
  own : w.ownsRow 0 e sz v n xs
  fp : ∀ k, v.ownBlock = some k → S k
theorem own_same {w w' : World} {b : Nat} {e : TypeId} {sz n : Nat} {v : Value} {xs : List Value} (h : w.ownsRow b e sz v n xs) (hk : ∀ k, v.ownBlock = some k → w'.heap[k]? = w.heap[k]?) : w'.ownsRow b e sz v n xs := by
  obtain ⟨h1, h2⟩ := h
  refine ⟨h1, ?_⟩
  rcases h2 with h2 | ⟨g, cap, cur, rfl, hg, hh, r⟩
  · exact .inl h2
  · exact .inr ⟨g, cap, cur, rfl, hg, (hk g rfl).trans hh, r⟩
theorem RowAt.keep {S : Nat → Prop} {w w' : World} {e : TypeId} {sz n : Nat} {v : Value} {xs : List Value} (h : RowAt S w e sz v n xs) (hk : Keep S w w') : RowAt S w' e sz v n xs :=
  ⟨own_same h.own fun k e => hk k (own_lt h.own k e) (h.fp k e), h.fp⟩
theorem RowAt.mono {S T : Nat → Prop} {w : World} {e : TypeId} {sz n : Nat} {v : Value} {xs : List Value} (h : RowAt S w e sz v n xs) (hs : ∀ k, k < w.heap.size → S k → T k) : RowAt T w e sz v n xs :=
  ⟨h.own, fun k e => hs k (own_lt h.own k e) (h.fp k e)⟩
theorem RowAt.nil (S : Nat → Prop) (w : World) (e : TypeId) (sz : Nat) : RowAt S w e sz (.slice none 0 0) 0 [] := ⟨own_nil w 0 e sz, fun k h => by cases h⟩
theorem RowAt.slice {S : Nat → Prop} {w : World} {e : TypeId} {sz n : Nat} {v : Value} {xs : List Value} (h : RowAt S w e sz v n xs) : ∃ A c, v = .slice A n c := own_slice h.own
theorem RowAt.reads {α : Type} {enc : α → Value} {d : α} {S : Nat → Prop} {w : World} {e : TypeId} {n : Nat} {v : Value} {xs : List α} (h : RowAt S w e 1 v n (encs enc xs)) : ∃ A c, v = .slice A n c ∧ ReadsOf enc d w A n xs := own_reads_of h.own
theorem RowAt.grown {S : Nat → Prop} {w w' : World} {e : TypeId} {sz n n' : Nat} {v v' : Value} {xs xs' : List Value} (h : RowAt S w e sz v n xs) (ho : w'.ownsRow 0 e sz v' n' xs') (hv : v'.ownBlock = v.ownBlock ∨ ∃ b, v'.ownBlock = some b ∧ w.heap.size ≤ b) : RowAt (up S w w') w' e sz v' n' xs' :=
  ⟨ho, fun k hk => by
    rcases hv with hv | ⟨b, hb, hle⟩
    · exact .inl (h.fp k (hv ▸ hk))
    · rw [hb] at hk
      injection hk with hk
      subst hk
      exact .inr ⟨hle, own_lt ho b hb⟩⟩
theorem own_take {w : World} {b : Nat} {e : TypeId} {sz n c m : Nat} {A : Option Addr} {xs : List Value} (h : w.ownsRow b e sz (.slice A n c) n xs) (hm : m ≤ n) (hA : A ≠ none) : w.ownsRow b e sz (.slice A m c) m (xs.take (m * sz)) := by
  obtain ⟨h1, h2⟩ := h
  have hms : m * sz ≤ n * sz := Nat.mul_le_mul_right _ hm
  refine ⟨by rw [List.length_take]; omega, ?_⟩
  rcases h2 with ⟨h2, _⟩ | ⟨g, cap, cur, hv, hg, hh, h3, h4, h5, h6⟩
  · injection h2 with h2
    exact absurd h2 hA
  · injection hv with h7 h8 h9
    subst h7 h9
    refine .inr ⟨g, c, cur, rfl, hg, hh, by omega, h4, h5, ?_⟩
    rw [← h6, List.take_take, Nat.min_eq_left hms]

structure Fam {α : Type} (enc : α → Array Value) (d : α) (ty : TypeId) (S : Nat → Prop) (w : World) (ms : List Nat) (l : List α) : Prop where
  len : ms.length = l.length
  dup : ms.Nodup
  all : ∀ i, i < l.length → w.heap[nth ms i]? = some (.cells (enc (l.getD i d)) ty (0, 0))
  fp : ∀ i, i < l.length → S (nth ms i)
section
variable {α : Type} {enc : α → Array Value} {d : α} {ty : TypeId} {S T : Nat → Prop} {w w' : World} {ms : List Nat} {l : List α}
theorem nth_eq (ms : List Nat) (i : Nat) (h : i < ms.length) : nth ms i = ms[i] := by
  unfold nth rdOf; rw [Int.toNat_natCast, List.getD_eq_getElem?_getD, List.getElem?_eq_getElem h]; rfl
theorem nth_ne {ms : List Nat} (hd : ms.Nodup) {i j : Nat} (hi : i < ms.length) (hj : j < ms.length) (h : i ≠ j) : nth ms i ≠ nth ms j := by
  rw [nth_eq ms i hi, nth_eq ms j hj]
  intro e
  exact h ((List.getElem_inj hd).mp e)
theorem Fam.keep (h : Fam enc d ty S w ms l) (hk : Keep S w w') : Fam enc d ty S w' ms l :=
  ⟨h.len, h.dup, fun i hi => (hk _ (blk_lt (h.all i hi)) (h.fp i hi)).trans (h.all i hi), h.fp⟩
theorem Fam.mono (h : Fam enc d ty S w ms l) (hs : ∀ k, k < w.heap.size → S k → T k) : Fam enc d ty T w ms l := ⟨h.len, h.dup, h.all, fun i hi => hs _ (blk_lt (h.all i hi)) (h.fp i hi)⟩
theorem Fam.nil : Fam enc d ty S w [] [] := ⟨rfl, List.nodup_nil, fun i hi => by simp at hi, fun i hi => by simp at hi⟩
theorem Fam.upd (h : Fam enc d ty S w ms l) (i : Nat) (x : α) (hi : i < l.length) (hx : w'.heap[nth ms i]? = some (.cells (enc x) ty (0, 0)))
    (hk : ∀ k, k < w.heap.size → S k → k ≠ nth ms i → w'.heap[k]? = w.heap[k]?) : Fam enc d ty S w' ms (l.set i x) := by
  have hl := h.len
  refine ⟨by simpa using h.len, h.dup, fun j hj => ?_, fun j hj => h.fp j (by simpa using hj)⟩
  have hj' : j < l.length := by simpa using hj
  by_cases he : j = i
  · subst he
    rw [hx, List.getD_eq_getElem?_getD, List.getElem?_set_self hi]; rfl
  · rw [hk _ (blk_lt (h.all j hj')) (h.fp j hj') (nth_ne h.dup (by omega) (by omega) he), h.all j hj']
    rw [List.getD_eq_getElem?_getD, List.getD_eq_getElem?_getD, List.getElem?_set_ne (by omega)]
theorem Fam.snoc (h : Fam enc d ty S w ms l) (g : Nat) (x : α) (hx : w.heap[g]? = some (.cells (enc x) ty (0, 0))) (hS : S g) (hn : g ∉ ms) : Fam enc d ty S w (ms ++ [g]) (l ++ [x]) := by
  have hl := h.len
  have e1 : ∀ i, i < ms.length → nth (ms ++ [g]) i = nth ms i := fun i hi => by
    rw [nth_eq _ i (by simp; omega), nth_eq _ i hi, List.getElem_append_left hi]
  have e2 : nth (ms ++ [g]) ms.length = g := by rw [nth_eq _ _ (by simp)]; simp
  refine ⟨by simp [hl], ?_, fun i hi => ?_, fun i hi => ?_⟩
  · rw [List.nodup_append]
    exact ⟨h.dup, by simp, fun a ha b hb => by simp at hb; subst hb; exact fun e => hn (e ▸ ha)⟩
  · simp at hi
    by_cases he : i < l.length
    · rw [e1 i (by omega), h.all i he, List.getD_eq_getElem?_getD, List.getD_eq_getElem?_getD, List.getElem?_append_left he]
    · obtain rfl : i = l.length := by omega
      rw [← hl, e2, hx, List.getD_eq_getElem?_getD, hl]
      simp
  · simp at hi
    by_cases he : i < l.length
    · rw [e1 i (by omega)]; exact h.fp i he
    · obtain rfl : i = l.length := by omega
      rw [← hl, e2]; exact hS
theorem Fam.erase (h : Fam enc d ty S w ms l) (i : Nat) (hi : i < l.length) : Fam enc d ty S w (ms.eraseIdx i) (l.eraseIdx i) := by
  have hl := h.len
  have e1 : ∀ j, j < l.length - 1 → ∃ k, k < l.length ∧ nth (ms.eraseIdx i) j = nth ms k ∧ (l.eraseIdx i).getD j d = l.getD k d := fun j hj => by
    by_cases hji : j < i
    · refine ⟨j, by omega, ?_, ?_⟩
      · unfold nth rdOf; rw [List.getD_eq_getElem?_getD, List.getD_eq_getElem?_getD, List.getElem?_eraseIdx, Int.toNat_natCast, if_pos hji]
      · rw [List.getD_eq_getElem?_getD, List.getD_eq_getElem?_getD, List.getElem?_eraseIdx, if_pos hji]
    · refine ⟨j + 1, by omega, ?_, ?_⟩
      · unfold nth rdOf; rw [List.getD_eq_getElem?_getD, List.getD_eq_getElem?_getD, List.getElem?_eraseIdx, Int.toNat_natCast, Int.toNat_natCast, if_neg hji]
      · rw [List.getD_eq_getElem?_getD, List.getD_eq_getElem?_getD, List.getElem?_eraseIdx, if_neg hji]
  refine ⟨by rw [List.length_eraseIdx, List.length_eraseIdx, hl], h.dup.eraseIdx i, fun j hj => ?_, fun j hj => ?_⟩
  all_goals
    rw [List.length_eraseIdx, if_pos hi] at hj
    obtain ⟨k, hk, e, e'⟩ := e1 j hj
    rw [e]
  · rw [e']; exact h.all k hk
  · exact h.fp k hk
theorem Fam.lt (h : Fam enc d ty S w ms l) {g : Nat} (hg : g ∈ ms) : g < w.heap.size := by
  obtain ⟨i, hi, rfl⟩ := List.getElem_of_mem hg
  have := blk_lt (h.all i (by have := h.len; omega))
  rwa [nth_eq ms i hi] at this
end
theorem size_set (w : World) (a : Addr) (v : Value) : (w.setCell a v).heap.size = w.heap.size := by simp [World.setCell]
structure Pushed (S : Nat → Prop) (w wb w7 : World) (e : TypeId) (sz : Nat) (v v6 : Value) (n' : Nat) (xs' : List Value) (g : Nat) (cs' : Array Value) (ty : TypeId) : Prop where
  row : RowAt (up S w w7) w7 e sz v6 n' xs'
  blk : w7.heap[g]? = some (.cells cs' ty (0, 0))
  chg : Chg (fun k => k = g ∨ v.ownBlock = some k) w w7
  new : ∀ j, w.heap.size ≤ j → j < wb.heap.size → w7.heap[j]? = wb.heap[j]?
  lt : wb.heap.size ≤ w7.heap.size
  hat : v6.ownBlock = v.ownBlock ∨ ∃ b, v6.ownBlock = some b ∧ w.heap.size ≤ b
theorem row_push {S : Nat → Prop} {w wb w6 : World} {e : TypeId} {sz n n' : Nat} {v v6 : Value} {xs xs' : List Value} {g : Nat} {cs : Array Value} {ty : TypeId} (k : Nat) (hrow : RowAt S w e sz v n xs) (hb : Below w.heap.size w wb)
    (ho : w6.ownsRow 0 e sz v6 n' xs') (hg : wb.grownBy w6 v.ownBlock) (hat : v6.ownBlock = v.ownBlock ∨ ∃ b, v6.ownBlock = some b ∧ wb.heap.size ≤ b) (hblk : w.heap[g]? = some (.cells cs ty (0, 0))) (hty : e ≠ ty) :
    Pushed S w wb (w6.setCell ⟨g, k, none⟩ v6) e sz v v6 n' xs' g (cs.setIfInBounds k v6) ty := by
  have hne : some g ≠ v.ownBlock := own_ne hrow.own hblk hty
  have hlt := blk_lt hblk
  have h1 := hb.size
  have h2 := hg.size
  have hgb : w6.heap[g]? = some (.cells cs ty (0, 0)) := (hg.block g (by omega) hne).trans ((hb.block g hlt).trans hblk)
  have hg6 : some g ≠ v6.ownBlock := own_ne ho hgb hty
  have ho7 : (w6.setCell ⟨g, k, none⟩ v6).ownsRow 0 e sz v6 n' xs' := own_setCell ho hg6 v6
  refine ⟨⟨ho7, fun j hj => ?_⟩, blk_set hgb k v6, ⟨hg.os.trans hb.os, hg.tape.trans hb.tape, hg.output.trans hb.output, by rw [size_set]; omega, fun j hj hn => ?_⟩, fun j hj1 hj2 => ?_, by rw [size_set]; omega, by rcases hat with hv | ⟨b, hb', hle⟩; exact .inl hv; exact .inr ⟨b, hb', by omega⟩⟩
  · have hl := own_lt ho7 j hj
    rcases hat with hv | ⟨b, hb', hle⟩
    · exact .inl (hrow.fp j (hv ▸ hj))
    · rw [hb'] at hj
      injection hj with hj
      subst hj
      exact .inr ⟨by omega, hl⟩
  · rw [Below.heap_setCell _ _ _ _ (fun e' => hn (.inl e'))]
    exact (hg.block j (by omega) (fun e' => hn (.inr e'.symm))).trans (hb.block j hj)
  · rw [Below.heap_setCell _ _ _ _ (fun e' => by have : j = g := e'; omega)]
    refine hg.block j hj2 (fun e' => ?_)
    have := own_lt hrow.own j e'.symm
    omega
structure Pre (S : Nat → Prop) (w wb w6 : World) (e : TypeId) (sz : Nat) (v v6 : Value) (n' : Nat) (xs' : List Value) (g k : Nat) (cs : Array Value) (ty : TypeId) : Prop where
  blk : w6.heap[g]? = some (.cells cs ty (0, 0))
  post : Pushed S w wb (w6.setCell ⟨g, k, none⟩ v6) e sz v v6 n' xs' g (cs.setIfInBounds k v6) ty
section
variable {P : Program} {ops : Array Oper} {rest : List Oper} {o : Oper} {a : Act} {Q : Exit → Act → World → Prop} {α : Type}
theorem wp_push {S : Nat → Prop} {w wb : World} (enc : α → Value) (hgd : o.guard = none) (s x : Operand) (t e : TypeId) (z : Value) (bytes : Nat)
    (ho : o.op = .call { callee := .builtin .append, args := #[s, x], argTypes := #[t, t] })
    (ht : P.underlying t = some (.slice e)) (hinfo : (P.info? e).map (fun i => (i.zero, i.size, i.bytes)) = some (some z, 1, bytes)) (hz : z.cells.size = 1) (hb0 : 0 < bytes)
    (v : Value) (xs : List α) (y : α) (g k : Nat) (cs : Array Value) (ty : TypeId) (hs : a.eval s = v) (hx : a.eval x = .slice (some ⟨wb.heap.size, 0, none⟩) 1 1) (h1 : (enc y).oneCell' = true)
    (HR : RowAt S w e 1 v xs.length (encs enc xs)) (hb : Below w.heap.size w wb) (hblk : w.heap[g]? = some (.cells cs ty (0, 0))) (hty : e ≠ ty) (hl : (xs.length + 1) * bytes ≤ 140737488355328)
    (h : ∀ A6 c6 w6, Pre S w wb w6 e 1 v (.slice A6 (xs.length + 1) c6) (xs.length + 1) (encs enc (xs ++ [y])) g k cs ty → wpList P ops Q rest (a.put o.dst (.slice A6 (xs.length + 1) c6)) w6) :
    wpList P ops Q (o :: rest) a (wb.alloc (.cells #[enc y] e)) := by
  have hro : wb.ownsRow 0 e 1 v xs.length (encs enc xs) := own_same HR.own fun j hj => hb.block j (own_lt HR.own j hj)
  refine print_append_of (w0 := wb) enc 0 hgd s x t e z bytes ho ht hinfo hz hb0 v xs y hs hx h1 hro (Below.refl 0 wb) (Nat.zero_le _) hl ?_
  intro v6 w6 ho6 _ hg hat
  obtain ⟨A6, c6, rfl⟩ := own_slice ho6
  have e1 : (xs ++ [y]).length = xs.length + 1 := by simp
  rw [e1] at ho6 hat ⊢
  exact h A6 c6 w6 ⟨blk_grown ((hb.block g (blk_lt hblk)).trans hblk) hg (own_ne HR.own hblk hty), row_push k HR hb ho6 hg hat hblk hty⟩
end
theorem Fam.off {α : Type} {enc : α → Array Value} {d : α} {ty : TypeId} {S T : Nat → Prop} {w w' : World} {ms : List Nat} {l : List α} (h : Fam enc d ty S w ms l) (hc : Chg T w w') (hT : ∀ k cs, w.heap[k]? = some (.cells cs ty (0, 0)) → ¬ T k) : Fam enc d ty S w' ms l :=
  ⟨h.len, h.dup, fun i hi => (hc.block _ (blk_lt (h.all i hi)) (hT _ _ (h.all i hi))).trans (h.all i hi), h.fp⟩
theorem not_push {w : World} {g : Nat} {cs : Array Value} {ty t e : TypeId} {v : Value} {b sz n : Nat} {xs : List Value} (hg : w.heap[g]? = some (.cells cs t (0, 0))) (hr : w.ownsRow b e sz v n xs) (h1 : ty ≠ t) (h2 : e ≠ ty) :
    ∀ k cs', w.heap[k]? = some (.cells cs' ty (0, 0)) → ¬ (k = g ∨ v.ownBlock = some k) := fun k cs' hk hT => by
  rcases hT with rfl | hT
  · exact blk_ne hk hg h1 rfl
  · exact own_ne hr hk h2 hT.symm
theorem Chg.push {S : Nat → Prop} {w w' : World} {g : Nat} {v : Value} {e : TypeId} {sz n : Nat} {xs : List Value} (hc : Chg (fun k => k = g ∨ v.ownBlock = some k) w w') (hg : S g) (hr : RowAt S w e sz v n xs) : Chg S w w' :=
  hc.mono fun k hk => by
    rcases hk with rfl | hk
    · exact hg
    · exact hr.fp k hk
end Go.Proofs.YtbpoapfkeinjnaaGreatDoor.Ld
namespace Go.Proofs.YtbpoapfkeinjnaaGreatDoor.Ld
open Go.RowKit Go.Proofs.YtbpoapfkeinjnaaGreatDoorW.PrintWords Go.Proofs.YtbpoapfkeinjnaaGreatDoorW.PrintLast Go.Proofs.YtbpoapfkeinjnaaGreatDoorW.PrintMore
set_option linter.unusedVariables false
set_option linter.unusedSimpArgs false
attribute [local go_sem] max2_int min2_int max_two min_two
def encMb (m : Mb) : Array Value := #[.int .i64 m.id, .int .i64 m.weight, .int .i64 m.credit]
structure Tur where
  q : Int
  at_ : Int
  l : List Mb
structure TurP (S : Nat → Prop) (w : World) (g : Nat) (t : Tur) (v : Value) (ms : List Nat) : Prop where
  blk : w.heap[g]? = some (.cells #[.int .i64 t.q, v, .int .i64 t.at_] 146 (0, 0))
  row : RowAt S w 164 1 v t.l.length (encs ptrV ms)
  fam : Fam encMb mb0 166 S w ms t.l
  fg : S g
def TurAt (S : Nat → Prop) (w : World) (g : Nat) (t : Tur) : Prop := ∃ v ms, TurP S w g t v ms
section
variable {S T : Nat → Prop} {w w' : World} {g : Nat} {t : Tur} {v : Value} {ms : List Nat}
theorem TurP.keep (h : TurP S w g t v ms) (hk : Keep S w w') : TurP S w' g t v ms := ⟨(hk g (blk_lt h.blk) h.fg).trans h.blk, h.row.keep hk, h.fam.keep hk, h.fg⟩
theorem TurP.mono (h : TurP S w g t v ms) (hs : ∀ k, k < w.heap.size → S k → T k) : TurP T w g t v ms := ⟨h.blk, h.row.mono hs, h.fam.mono hs, hs g (blk_lt h.blk) h.fg⟩
theorem TurAt.keep (h : TurAt S w g t) (hk : Keep S w w') : TurAt S w' g t := by obtain ⟨v, ms, h⟩ := h; exact ⟨v, ms, h.keep hk⟩
theorem TurAt.mono (h : TurAt S w g t) (hs : ∀ k, k < w.heap.size → S k → T k) : TurAt T w g t := by obtain ⟨v, ms, h⟩ := h; exact ⟨v, ms, h.mono hs⟩
theorem TurP.is (h : TurP S w g t v ms) : ∃ A c, v = .slice A t.l.length c ∧ TurnsIs w 0 g t.q A c ms t.l t.at_ := by
  have hl := h.fam.len
  obtain ⟨A, c, rfl, hr⟩ := RowAt.reads (d := 0) h.row
  exact ⟨A, c, rfl, h.blk, ⟨by rw [hl]; exact hr, hl, h.fam.dup, h.fam.all⟩, h.row.own⟩
end
theorem TurP.push {S : Nat → Prop} {w w7 : World} {g : Nat} {t : Tur} {v v6 : Value} {ms : List Nat} (h : TurP S w g t v ms) (id wt : Int)
    (P : Pushed S w (w.alloc (.cells (encMb ⟨id, wt, 0⟩) 166)) w7 164 1 v v6 (ms.length + 1) (encs ptrV (ms ++ [w.heap.size])) g #[.int .i64 t.q, v6, .int .i64 t.at_] 146) :
    TurAt (up S w w7) w7 g { t with l := t.l ++ [⟨id, wt, 0⟩] } ∧ Chg S w w7 := by
  have hlen := h.fam.len
  refine ⟨⟨v6, ms ++ [w.heap.size], P.blk, by simpa [hlen] using P.row, ?_, .inl h.fg⟩, P.chg.push h.fg h.row⟩
  have hf := (h.fam.off P.chg (not_push h.blk h.row.own (by decide) (by decide))).mono (T := up S w w7) (fun k _ hk => .inl hk)
  have hs : (w.alloc (.cells (encMb ⟨id, wt, 0⟩) 166)).heap.size = w.heap.size + 1 := by simp
  exact hf.snoc w.heap.size ⟨id, wt, 0⟩ ((P.new _ (Nat.le_refl _) (by omega)).trans (heap_alloc_new w _)) (.inr ⟨Nat.le_refl _, by have := P.lt; omega⟩) (fun hm => by have := h.fam.lt hm; omega)
def joinErr (t : Tur) (id wt : Int) : Int := if wt < 1 ∨ 100 < wt then 1 else if 0 ≤ placeI t.l id then 8 else 0
def joinSt (t : Tur) (id wt : Int) : Tur := if joinErr t id wt = 0 then { t with l := t.l ++ [⟨id, wt, 0⟩] } else t
theorem info164 : (Tryz.prog.info? 164).map (fun i => (i.zero, i.size, i.bytes)) = some (some (.pointer none), 1, 8) := by kernel_rfl

set_option maxHeartbeats 8000000 in
set_option maxRecDepth 100000 in
theorem Join_calls (S : Nat → Prop) (g : Nat) (t : Tur) (id wt : Int) (w : World) (ha : TurAt S w g t) (hn : t.l.length ≤ 900) :
    Calls Tryz.prog 74 #[.pointer (some ⟨g, 0, none⟩), .int .i64 id, .int .i64 wt] w fun e w' => e = .returned (.int .i64 (joinErr t id wt)) ∧ TurAt (up S w w') w' g (joinSt t id wt) ∧ Chg S w w' := by
  have HA := Aside0.mk ha
  obtain ⟨v, ms, hp⟩ := ha
  obtain ⟨A, c, rfl, hi⟩ := hp.is
  have HP := Aside0.mk hp
  have HI := Aside0.mk hi
  obtain ⟨r, hr⟩ : ∃ r, placeI t.l id = r := ⟨_, rfl⟩
  have HR := Aside0.mk hr
  clear hp hi
  by_cases h1 : wt < 1 ∨ 100 < wt
  · have E1 : Aside0 (joinErr t id wt = 1) := ⟨if_pos h1⟩
    have E2 : Aside0 (joinSt t id wt = t) := ⟨by unfold joinSt; rw [E1.out, if_neg (by decide)]⟩
    rw [E1.out, E2.out]
    clear hr
    by_cases h2 : wt < 1
    · go_enter Tryz.func74, Tryz.ntmps74
      go_wp2
      go_ret
      exact ⟨rfl, HA.out.mono (fun k _ => up_old k), Chg.refl S w⟩
    · have h3 : 100 < wt := by omega
      go_enter Tryz.func74, Tryz.ntmps74
      go_wp2
      go_ret
      exact ⟨rfl, HA.out.mono (fun k _ => up_old k), Chg.refl S w⟩
  have h2 : ¬ wt < 1 := by omega
  have h3 : ¬ 100 < wt := by omega
  have N1 := Aside0.mk h1
  clear h1
  by_cases h4 : 0 ≤ r
  · have E1 : Aside0 (joinErr t id wt = 8) := ⟨by unfold joinErr; rw [if_neg N1.out, hr, if_pos h4]⟩
    have E2 : Aside0 (joinSt t id wt = t) := ⟨by unfold joinSt; rw [E1.out, if_neg (by decide)]⟩
    rw [E1.out, E2.out]
    clear hr
    go_enter Tryz.func74, Tryz.ntmps74
    go_wp2_with (go_at_call 123; (with_reducible refine (place_calls 0 _ _ _ _ _ _ _ _ _ HI.out (by omega)).mono ?_); rintro e w1 ⟨rfl, hb⟩; rw [HR.out]; have HB := Aside0.mk hb; clear hb)
    go_ret
    exact ⟨rfl, (HA.out.keep (Keep.of_below HB.out)).mono (fun k _ => up_old k), Chg.of_below HB.out S⟩
  · have E1 : Aside0 (joinErr t id wt = 0) := ⟨by unfold joinErr; rw [if_neg N1.out, hr, if_neg h4]⟩
    have E2 : Aside0 (joinSt t id wt = { t with l := t.l ++ [⟨id, wt, 0⟩] }) := ⟨by unfold joinSt; rw [E1.out, if_pos rfl]⟩
    rw [E1.out, E2.out]
    clear hr
    go_enter Tryz.func74, Tryz.ntmps74
    go_wp2_with (first
      | (go_at_call 123; (with_reducible refine (place_calls 0 _ _ _ _ _ _ _ _ _ HI.out (by omega)).mono ?_); rintro e w1 ⟨rfl, hb⟩; rw [HR.out]; have HP1 := Aside0.mk (HP.out.keep (Keep.of_below hb)); have c1 := (HI.out.below hb).c1; have HB := Aside0.mk hb; clear hb)
      | (at_builtin; go_loud (refine wp_push (S := S) (w := w1) (wb := w1.alloc (.cells (encMb ⟨id, wt, 0⟩) 166)) ptrV rfl (.tmp 23) (.tmp 28) 144 164 (.pointer none) 8 rfl Tryz.underlying144 info164 rfl (by decide) (.slice A t.l.length c) ms w1.heap.size g 1 #[.int .i64 t.q, .slice A t.l.length c, .int .i64 t.at_] 146 rfl ?ax rfl ?a1 ?a2 ?a3 (by decide) ?a4 ?_); (case ax => (refine (?_ : Value.slice (some ⟨w1.heap.size + 1, 0, none⟩) 1 1 = _); simp)); (case a1 => exact HP1.out.fam.len ▸ HP1.out.row); (case a2 => exact below_alloc (Below.refl _ w1) _); (case a3 => exact HP1.out.blk); (case a4 => have := HP1.out.fam.len; omega); (intro A6 c6 w6 hpre; have c6 := (blk_cell hpre.blk 1).trans rfl; have f6 := blk_frozen hpre.blk 1; have HF := Aside0.mk hpre.post; clear hpre)))
    go_ret
    have hf := HP1.out.push id wt HF.out
    have hs := HB.out.size
    have hs2 := hf.2.size
    exact ⟨rfl, hf.1.mono (fun k _ hk => by rcases hk with hk | hk; exact .inl hk; exact .inr ⟨by omega, hk.2⟩), (Chg.of_below HB.out S).trans hf.2⟩
end Go.Proofs.YtbpoapfkeinjnaaGreatDoor.Ld
namespace Go.Proofs.YtbpoapfkeinjnaaGreatDoor.Ld
open Go.RowKit Go.Proofs.YtbpoapfkeinjnaaGreatDoorW.PrintWords Go.Proofs.YtbpoapfkeinjnaaGreatDoorW.PrintLast Go.Proofs.YtbpoapfkeinjnaaGreatDoorW.PrintMore
set_option linter.unusedVariables false
set_option linter.unusedSimpArgs false
attribute [local go_sem] max2_int min2_int max_two min_two
def flat {α : Type} (enc : α → List Value) (l : List α) : List Value := (l.map enc).flatten
theorem flat_get {α : Type} {enc : α → List Value} {sz : Nat} (hsz : ∀ x, (enc x).length = sz) (l : List α) (d : α) (i j : Nat) (hi : i < l.length) (hj : j < sz) : (flat enc l)[i * sz + j]? = (enc (l.getD i d))[j]? := by
  induction l generalizing i with
  | nil => simp at hi
  | cons x l ih =>
    have hx := hsz x
    rcases i with _ | i
    · simp [flat, List.getElem?_append_left (show j < (enc x).length by omega)]
    · have h1 := ih i (by simpa using hi)
      have h2 : (i + 1) * sz + j = (i * sz + j) + (enc x).length := by rw [hx, Nat.add_mul]; omega
      have h3 : flat enc (x :: l) = enc x ++ flat enc l := by simp [flat]
      rw [h2, h3, List.getElem?_append_right (by omega), Nat.add_sub_cancel, h1]
      simp
theorem flat_length {α : Type} {enc : α → List Value} {sz : Nat} (hsz : ∀ x, (enc x).length = sz) (l : List α) : (flat enc l).length = l.length * sz := by
  induction l with
  | nil => simp [flat]
  | cons x l ih =>
    have h3 : flat enc (x :: l) = enc x ++ flat enc l := by simp [flat]
    rw [h3, List.length_append, ih, hsz, List.length_cons, Nat.add_mul]; omega
theorem flat_append {α : Type} (enc : α → List Value) (l k : List α) : flat enc (l ++ k) = flat enc l ++ flat enc k := by simp [flat]
theorem RowAt.item {α : Type} {enc : α → List Value} {sz : Nat} (hsz : ∀ x, (enc x).length = sz) (hs0 : 0 < sz) (d : α) {T : Nat → Prop} {w : World} {e : TypeId} {n c : Nat} {A : Option Addr} {l : List α} (h : RowAt T w e sz (.slice A n c) n (flat enc l)) (i : Nat) (hi : i < l.length) :
    ∃ ad, A = some ad ∧ (w.cell? (ad.add (i * sz)) = (enc (l.getD i d))[0]?) ∧ ∀ j, 0 < j → j < sz → w.cell? ⟨(ad.add (i * sz)).block, (ad.add (i * sz)).off + j, none⟩ = (enc (l.getD i d))[j]? := by
  have hl := h.own.1
  rw [flat_length hsz] at hl
  have hn : l.length = n := Nat.eq_of_mul_eq_mul_right hs0 hl
  obtain ⟨g, cap, hv, _, _⟩ := h.own.form (by omega)
  injection hv with h1 h2 h3
  subst h1
  have hget : ∀ j, j < sz → w.cell? ((⟨g, 0, none⟩ : Addr).add (i * sz + j)) = (enc (l.getD i d))[j]? := fun j hj => by
    have hlt : j < (enc (l.getD i d)).length := by rw [hsz]; exact hj
    have e := flat_get hsz l d i j hi hj
    rw [List.getElem?_eq_getElem hlt] at e ⊢
    exact h.own.cells (g := g) rfl _ _ e
  refine ⟨_, rfl, by simpa using hget 0 hs0, fun j hj0 hj => ?_⟩
  rw [← add_field _ _ _ hj0]
  exact hget j hj
structure Wt where
  id : Int
  cost : Int
def wt0 : Wt := ⟨0, 0⟩
def encWt (x : Wt) : List Value := [.int .i64 x.id, .int .i64 x.cost]
def ints (l : List Int) : List Value := encs (Value.int .i64) l
theorem RowAt.item2 {T : Nat → Prop} {w : World} {n c : Nat} {A : Option Addr} {l : List Wt} (h : RowAt T w 112 2 (.slice A n c) n (flat encWt l)) (i : Nat) (hi : i < l.length) :
    ∃ ad, A = some ad ∧ w.cell? (ad.add (i * 2)) = some (.int .i64 (l.getD i wt0).id) ∧ w.cell? ⟨(ad.add (i * 2)).block, (ad.add (i * 2)).off + 1, none⟩ = some (.int .i64 (l.getD i wt0).cost) := by
  obtain ⟨ad, e, h0, h1⟩ := h.item (enc := encWt) (sz := 2) (fun _ => rfl) (by decide) wt0 i hi
  exact ⟨ad, e, h0, h1 1 (by decide) (by decide)⟩
def costStep (l : List Mb) (p : List Int × Bool) (x : Wt) : List Int × Bool :=
  if 0 ≤ placeI l x.id ∧ rd p.1 (placeI l x.id) = 0 ∧ 1 ≤ x.cost ∧ x.cost ≤ 1048576 then (p.1.set (placeI l x.id).toNat x.cost, true) else p
def costsF (l : List Mb) (ws : List Wt) : List Int × Bool := ws.foldl (costStep l) (List.replicate l.length 0, false)
theorem costStep_len (l : List Mb) (p : List Int × Bool) (x : Wt) : (costStep l p x).1.length = p.1.length := by
  unfold costStep; split <;> simp
theorem placeI_cases (l : List Mb) (id : Int) : placeI l id = -1 ∨ (0 ≤ placeI l id ∧ placeI l id < l.length) := by
  unfold placeI
  rcases fndN_cases (isId id) (mbs l) l.length with ⟨h, _⟩ | ⟨i, h, hi, _⟩
  · exact .inl h
  · exact .inr (by omega)
theorem info3 : (Tryz.prog.info? 3).map (fun i => (i.zero, i.size, i.bytes)) = some (some (.int .i64 0), 1, 8) := by kernel_rfl
theorem foldl_next {α β : Type} (f : β → α → β) (z : β) (l : List α) (d : α) (i : Nat) (h : i < l.length) {p : β} (hp : (l.take i).foldl f z = p) : (l.take (i + 1)).foldl f z = f p (l.getD i d) := by
  rw [List.take_succ_eq_append_getElem h, List.foldl_append, hp, List.getD_eq_getElem?_getD, List.getElem?_eq_getElem h]; rfl
theorem place_r {S : Nat → Prop} {g : Nat} {t : Tur} {id r : Int} (hr : placeI t.l id = r) (hn : t.l.length ≤ 900) (w : World) (ha : TurAt S w g t) :
    Calls Tryz.prog 123 #[.pointer (some ⟨g, 0, none⟩), .int .i64 id] w fun e w' => e = .returned (.int .i64 r) ∧ Below w.heap.size w w' := by
  subst hr
  obtain ⟨v, ms, hp⟩ := ha
  obtain ⟨A, c, rfl, hi⟩ := hp.is
  exact place_calls 0 g t.q A c ms t.l t.at_ id w hi (by omega)
theorem place_box {S : Nat → Prop} {g : Nat} {t : Tur} {id r : Int} (hr : placeI t.l id = r) (hn : t.l.length ≤ 900) (w : World) (ha : TurAt S w g t) (cs : Array Value) (ty : TypeId) :
    Calls Tryz.prog 123 #[.pointer (some ⟨g, 0, none⟩), .int .i64 id] (w.alloc (.cells cs ty)) fun e w' => e = .returned (.int .i64 r) ∧ w'.heap[w.heap.size]? = some (.cells cs ty (0, 0)) ∧ Below w.heap.size w w' :=
  (place_r hr hn _ (ha.keep (Keep.of_below (below_alloc (Below.refl _ w) _)))).mono fun e w' ⟨h1, h2⟩ => ⟨h1, blk_below (heap_alloc_new w _) h2, below_step (below_alloc (Below.refl _ w) _) h2⟩
theorem RowAt.int_at {S : Nat → Prop} {w : World} {e : TypeId} {b n c : Nat} {cs : List Int} (h : RowAt S w e 1 (.slice (some ⟨b, 0, none⟩) n c) n (ints cs)) (r : Int) (h0 : 0 ≤ r) (h1 : r < n) : w.cell? ⟨b, r.toNat, none⟩ = some (.int .i64 (rd cs r)) ∧ w.frozen? ⟨b, r.toNat, none⟩ = false :=
  own_at_of (enc := Value.int .i64) (d := 0) h.own r h0 h1
theorem RowAt.int_put {S : Nat → Prop} {w : World} {e : TypeId} {b n c : Nat} {cs : List Int} (h : RowAt S w e 1 (.slice (some ⟨b, 0, none⟩) n c) n (ints cs)) (r x : Int) : RowAt S (w.setCell ⟨b, r.toNat, none⟩ (.int .i64 x)) e 1 (.slice (some ⟨b, 0, none⟩) n c) n (ints (cs.set r.toNat x)) :=
  ⟨(own_store_of (enc := Value.int .i64) h.own r x).1, h.fp⟩

set_option maxHeartbeats 8000000 in
set_option maxRecDepth 100000 in
theorem costs_calls (S T : Nat → Prop) (g : Nat) (t : Tur) (ws : List Wt) (A : Option Addr) (c : Nat) (w : World) (ha : TurAt S w g t) (hw : RowAt T w 112 2 (.slice A ws.length c) ws.length (flat encWt ws)) (hn : t.l.length ≤ 900) (hm : ws.length ≤ 900) :
    Calls Tryz.prog 104 #[.pointer (some ⟨g, 0, none⟩), .slice A ws.length c] w fun e w' => ∃ b, e = .returned (.tuple #[.slice (some ⟨b, 0, none⟩) t.l.length t.l.length, .bool (costsF t.l ws).2]) ∧ RowAt (fun k => w.heap.size ≤ k) w' 3 1 (.slice (some ⟨b, 0, none⟩) t.l.length t.l.length) t.l.length (ints (costsF t.l ws).1) ∧ Below w.heap.size w w' := by
  have HA := Aside0.mk ha
  have HW := Aside0.mk hw
  obtain ⟨v, ms, hp⟩ := ha
  obtain ⟨A1, c1, rfl, hi⟩ := hp.is
  have c1_ := hi.c1
  clear hp hi hw
  have hmk := fun W : World => print_make_of (P := Tryz.prog) 22 3 (.int .i64 0) 8 Tryz.underlying22 info3 rfl (by decide) t.l.length (by omega) W
  go_enter Tryz.func104, Tryz.ntmps104
  go_wp2
  have hB0 : Below w.heap.size w (w.alloc (.cells (madeCells #[.int .i64 0] t.l.length) 3)) := below_alloc (Below.refl _ w) _
  have hR0 : RowAt (fun k => w.heap.size ≤ k) (w.alloc (.cells (madeCells #[.int .i64 0] t.l.length) 3)) 3 1 (.slice (some ⟨w.heap.size, 0, none⟩) t.l.length t.l.length) t.l.length (ints (List.replicate t.l.length 0)) :=
    ⟨own_made_of (enc := Value.int .i64) (d := 0) w 0 3 t.l.length (Nat.zero_le _) (by omega), fun k hk => by cases hk; exact Nat.le_refl _⟩
  have HB0 := Aside0.mk hB0
  have HR0 := Aside0.mk hR0
  clear hB0 hR0 hmk
  generalize hw0 : w.alloc (.cells (madeCells #[.int .i64 0] t.l.length) 3) = w0 at *
  obtain ⟨b, hb⟩ : ∃ b, b = w.heap.size := ⟨_, rfl⟩
  rw [← hb]
  have HBB := Aside0.mk hb
  clear hw0 hb c1_
  go_loopg [5, 17] (ws.length + 1) (fun kq v5 v17 wr => ∃ (i : Nat) (b5 : Bool) (cs : List Int), v17 = .int .i64 (i : Int) ∧ v5 = .bool b5 ∧ Aside0 (kq + i = ws.length + 1 ∧ i ≤ ws.length ∧ (ws.take i).foldl (costStep t.l) (List.replicate t.l.length 0, false) = (cs, b5) ∧
    RowAt (fun k => w.heap.size ≤ k) wr 3 1 (.slice (some ⟨b, 0, none⟩) t.l.length t.l.length) t.l.length (ints cs) ∧ Below w.heap.size w wr))
  case atStart => exact ⟨0, false, _, rfl, rfl, ⟨by omega, by omega, rfl, by rw [HBB.out]; exact HR0.out, HB0.out⟩⟩
  case round =>
    obtain ⟨i, b5, cs, rfl, rfl, hA⟩ := hrel
    obtain ⟨hk, hi, hfold, hrow, hbw⟩ := hA.out
    have HF := Aside0.mk hfold
    have HRow := Aside0.mk hrow
    have HBw := Aside0.mk hbw
    have hwr := HW.out.keep (Keep.of_below hbw)
    have HTr := Aside0.mk (HA.out.keep (Keep.of_below hbw))
    clear hA hfold hrow hbw
    by_cases hlt : i < ws.length
    · obtain ⟨ad, rfl, d0, d1⟩ := hwr.item2 i hlt
      have p1 : (0 ≤ (i : Int)) = True := eq_true (by omega)
      have p2 : ((i : Int) < (ws.length : Int)) = True := eq_true (by omega)
      obtain ⟨x, hx⟩ : ∃ x, ws.getD i wt0 = x := ⟨_, rfl⟩
      rw [hx] at d0 d1
      have HX := Aside0.mk hx
      obtain ⟨r, hr⟩ : ∃ r, placeI t.l x.id = r := ⟨_, rfl⟩
      have HR := Aside0.mk hr
      have hrc := placeI_cases t.l x.id
      rw [hr] at hrc
      clear hx hr hwr
      by_cases h0 : 0 ≤ r
      · have hrl : r < t.l.length := by omega
        have p3 : (0 ≤ r) = True := eq_true h0
        have p4 : (r < (t.l.length : Int)) = True := eq_true hrl
        clear hrc
        obtain ⟨q, hq⟩ : ∃ q, rd cs r = q := ⟨_, rfl⟩
        have HQ := Aside0.mk hq
        clear hq
        by_cases hq0 : q = 0
        · subst hq0
          by_cases h1 : 1 ≤ x.cost
          · by_cases h2 : x.cost ≤ 1048576
            · have Y : Aside0 (0 ≤ r ∧ rd cs r = 0 ∧ 1 ≤ x.cost ∧ x.cost ≤ 1048576) := ⟨⟨h0, HQ.out, h1, h2⟩⟩
              go_wp2_with (go_at_call 123; go_loud ((with_reducible refine (place_box HR.out hn _ HTr.out _ _).mono ?_); rintro e w1 ⟨rfl, hk1, hb1⟩; have e0 := (blk_cell hk1 0).trans rfl; have e1 := (blk_cell hk1 1).trans rfl; have HB1 := Aside0.mk hb1; have HR1 := Aside0.mk (HRow.out.keep (Keep.of_below HB1.out)); obtain ⟨c2, f2⟩ := HR1.out.int_at r h0 hrl; rw [HQ.out] at c2; clear hb1 hk1))
              go_roundg (gk - 1)
              case measure => omega
              case rel => exact ⟨i + 1, true, cs.set r.toNat x.cost, rfl, rfl, ⟨by omega, by omega, by rw [foldl_next _ _ ws wt0 i hlt HF.out, HX.out]; unfold costStep; rw [HR.out]; exact if_pos Y.out, HR1.out.int_put r x.cost, (below_step HBw.out HB1.out).setCell (by rw [HBB.out]; exact Nat.le_refl _) _⟩⟩
            · have N : Aside0 (¬ (0 ≤ r ∧ rd cs r = 0 ∧ 1 ≤ x.cost ∧ x.cost ≤ 1048576)) := ⟨fun h => h2 h.2.2.2⟩
              go_wp2_with (go_at_call 123; go_loud ((with_reducible refine (place_box HR.out hn _ HTr.out _ _).mono ?_); rintro e w1 ⟨rfl, hk1, hb1⟩; have e0 := (blk_cell hk1 0).trans rfl; have e1 := (blk_cell hk1 1).trans rfl; have HB1 := Aside0.mk hb1; have HR1 := Aside0.mk (HRow.out.keep (Keep.of_below HB1.out)); obtain ⟨c2, f2⟩ := HR1.out.int_at r h0 hrl; rw [HQ.out] at c2; clear hb1 hk1))
              go_roundg (gk - 1)
              case measure => omega
              case rel => exact ⟨i + 1, b5, cs, rfl, rfl, ⟨by omega, by omega, by rw [foldl_next _ _ ws wt0 i hlt HF.out, HX.out]; unfold costStep; rw [HR.out]; exact if_neg N.out, HR1.out, below_step HBw.out HB1.out⟩⟩
          · have N : Aside0 (¬ (0 ≤ r ∧ rd cs r = 0 ∧ 1 ≤ x.cost ∧ x.cost ≤ 1048576)) := ⟨fun h => h1 h.2.2.1⟩
            go_wp2_with (go_at_call 123; go_loud ((with_reducible refine (place_box HR.out hn _ HTr.out _ _).mono ?_); rintro e w1 ⟨rfl, hk1, hb1⟩; have e0 := (blk_cell hk1 0).trans rfl; have e1 := (blk_cell hk1 1).trans rfl; have HB1 := Aside0.mk hb1; have HR1 := Aside0.mk (HRow.out.keep (Keep.of_below HB1.out)); obtain ⟨c2, f2⟩ := HR1.out.int_at r h0 hrl; rw [HQ.out] at c2; clear hb1 hk1))
            go_roundg (gk - 1)
            case measure => omega
            case rel => exact ⟨i + 1, b5, cs, rfl, rfl, ⟨by omega, by omega, by rw [foldl_next _ _ ws wt0 i hlt HF.out, HX.out]; unfold costStep; rw [HR.out]; exact if_neg N.out, HR1.out, below_step HBw.out HB1.out⟩⟩
        · have N : Aside0 (¬ (0 ≤ r ∧ rd cs r = 0 ∧ 1 ≤ x.cost ∧ x.cost ≤ 1048576)) := ⟨fun h => hq0 (HQ.out.symm.trans h.2.1)⟩
          have q1 : (q == 0) = false := by simp [hq0]
          clear hq0
          go_wp2_with (go_at_call 123; go_loud ((with_reducible refine (place_box HR.out hn _ HTr.out _ _).mono ?_); rintro e w1 ⟨rfl, hk1, hb1⟩; have e0 := (blk_cell hk1 0).trans rfl; have e1 := (blk_cell hk1 1).trans rfl; have HB1 := Aside0.mk hb1; have HR1 := Aside0.mk (HRow.out.keep (Keep.of_below HB1.out)); obtain ⟨c2, f2⟩ := HR1.out.int_at r h0 hrl; rw [HQ.out] at c2; clear hb1 hk1))
          go_roundg (gk - 1)
          case measure => omega
          case rel => exact ⟨i + 1, b5, cs, rfl, rfl, ⟨by omega, by omega, by rw [foldl_next _ _ ws wt0 i hlt HF.out, HX.out]; unfold costStep; rw [HR.out]; exact if_neg N.out, HR1.out, below_step HBw.out HB1.out⟩⟩
      · have N : Aside0 (¬ (0 ≤ r ∧ rd cs r = 0 ∧ 1 ≤ x.cost ∧ x.cost ≤ 1048576)) := ⟨fun h => h0 h.1⟩
        go_wp2_with (go_at_call 123; go_loud ((with_reducible refine (place_box HR.out hn _ HTr.out _ _).mono ?_); rintro e w1 ⟨rfl, hk1, hb1⟩; have e0 := (blk_cell hk1 0).trans rfl; have e1 := (blk_cell hk1 1).trans rfl; have HB1 := Aside0.mk hb1; have HR1 := Aside0.mk (HRow.out.keep (Keep.of_below HB1.out)); skip; clear hb1 hk1))
        go_roundg (gk - 1)
        case measure => omega
        case rel => exact ⟨i + 1, b5, cs, rfl, rfl, ⟨by omega, by omega, by rw [foldl_next _ _ ws wt0 i hlt HF.out, HX.out]; unfold costStep; rw [HR.out]; exact if_neg N.out, HR1.out, below_step HBw.out HB1.out⟩⟩
    · have hx : i = ws.length := by omega
      have HE : Aside0 (costsF t.l ws = (cs, b5)) := ⟨by have := HF.out; rw [hx, List.take_length] at this; exact this⟩
      clear hx
      go_wp2
      go_ret2
      exact ⟨b, by rw [HE.out]; rfl, by rw [HE.out]; exact HRow.out, HBw.out⟩
end Go.Proofs.YtbpoapfkeinjnaaGreatDoor.Ld
