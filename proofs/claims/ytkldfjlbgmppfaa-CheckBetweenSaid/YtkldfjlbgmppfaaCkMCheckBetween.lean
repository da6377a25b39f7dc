/- What the plain functions of package check answer: within, Config, Task, File. Numbers and lists alone. -/
import Derived.Test.YtkldfjlbgmppfaaMCheckBetweenx1
import Derived.Test.YtkldfjlbgmppfaaPlain
namespace Go.Proofs.Ytkldfjlbgmppfaa.MCheckBetween
open Go.RowKit Go.Proofs.Ytkldfjlbgmppfaa.Plain Go.Proofs.YtkldfjlbgmppfaaW.PrintWords Go.Proofs.YtkldfjlbgmppfaaW.PrintLast

/-- All numbers of a list are from 'lo' to 'hi'. -/
def allIn (lo hi : Int) (l : List Int) : Bool := l.all fun x => decide (lo ≤ x) && decide (x ≤ hi)
theorem allIn_cons (lo hi x : Int) (l : List Int) : allIn lo hi (x :: l) = ((decide (lo ≤ x) && decide (x ≤ hi)) && allIn lo hi l) := rfl

theorem within_l0 (lo hi : Int) (l : List Int) (hl : l.length ≤ 1000) : ∀ (d k i : Nat), i + d = l.length → d < k →
    check_within.l0 k lo hi l (l.length : Int) (i : Int) = some (allIn lo hi (l.drop i)) := by
  intro d
  induction d with
  | zero =>
    intro k i hi' hk
    obtain ⟨k, rfl⟩ : ∃ m, k = m + 1 := ⟨k - 1, by omega⟩
    have hd : l.drop i = [] := List.drop_eq_nil_of_le (by omega)
    simp only [check_within.l0]
    rw [if_neg (by omega), hd]
    rfl
  | succ d ih =>
    intro k i hi' hk
    obtain ⟨k, rfl⟩ : ∃ m, k = m + 1 := ⟨k - 1, by omega⟩
    have hlt : i < l.length := by omega
    have hr : rd l (i : Int) = l[i] := by simp [rd, hlt]
    have hd : l.drop i = l[i] :: l.drop (i + 1) := List.drop_eq_getElem_cons hlt
    simp only [check_within.l0]
    rw [if_pos (by omega), if_pos (by omega), if_pos (by omega), hr, hd, allIn_cons]
    by_cases h1 : l[i] < lo
    · rw [if_pos h1]
      have : ¬ lo ≤ l[i] := by omega
      simp [this]
    · rw [if_neg h1]
      by_cases h2 : l[i] > hi
      · rw [if_pos h2]
        have : ¬ l[i] ≤ hi := by omega
        simp [this]
      · rw [if_neg h2, wrap_next hlt hl, ih k (i + 1) (by omega) (by omega)]
        have h3 : lo ≤ l[i] := by omega
        have h4 : l[i] ≤ hi := by omega
        simp [h3, h4]

theorem within_f (k : Nat) (lo hi : Int) (l : List Int) (hl : l.length ≤ 1000) (hk : l.length < k) : check_within.f k lo hi l = some (allIn lo hi l) := by
  have := within_l0 lo hi l hl l.length k 0 (by omega) hk
  simpa [check_within.f] using this

/-- A config's verdict; an errno's number; a task's verdict. -/
def okConfig (a0 a1 a2 a3 a4 a5 a6 a7 a8 a9 : Int) : Bool := allIn 1 1048576 [a0, a2, a4, a6, a7, a8, a9] && (allIn 0 1048576 [a3, a5] && allIn 1 16 [a1])
def err (b : Bool) : Int := if b = true then 0 else 3
def okTask (t : S39) : Bool := allIn 1 1048576 [t.f0, t.f1]

theorem okTask_iff (t : S39) : okTask t = true ↔ (1 ≤ t.f0 ∧ t.f0 ≤ 1048576) ∧ 1 ≤ t.f1 ∧ t.f1 ≤ 1048576 := by simp [okTask, allIn]
theorem okConfig_iff (a0 a1 a2 a3 a4 a5 a6 a7 a8 a9 : Int) : okConfig a0 a1 a2 a3 a4 a5 a6 a7 a8 a9 = true ↔
    ((1 ≤ a0 ∧ a0 ≤ 1048576) ∧ (1 ≤ a2 ∧ a2 ≤ 1048576) ∧ (1 ≤ a4 ∧ a4 ≤ 1048576) ∧ (1 ≤ a6 ∧ a6 ≤ 1048576) ∧ (1 ≤ a7 ∧ a7 ≤ 1048576) ∧ (1 ≤ a8 ∧ a8 ≤ 1048576) ∧ 1 ≤ a9 ∧ a9 ≤ 1048576) ∧ ((0 ≤ a3 ∧ a3 ≤ 1048576) ∧ 0 ≤ a5 ∧ a5 ≤ 1048576) ∧ 1 ≤ a1 ∧ a1 ≤ 16 := by simp [okConfig, allIn]

theorem told_f (b : Bool) : check_told.f b = some (err b) := by cases b <;> rfl

theorem config_f (k : Nat) (hk : 8 ≤ k) (a0 a1 a2 a3 a4 a5 a6 a7 a8 a9 : Int) :
    check_Config.f k a0 a1 a2 a3 a4 a5 a6 a7 a8 a9 = some (err (okConfig a0 a1 a2 a3 a4 a5 a6 a7 a8 a9)) := by
  unfold check_Config.f okConfig
  rw [within_f k _ _ _ (by simp) (by simp; omega), within_f k _ _ _ (by simp) (by simp; omega), within_f k _ _ _ (by simp) (by simp; omega)]
  simp only [Option.bind_some, told_f]
  cases allIn 1 1048576 [a0, a2, a4, a6, a7, a8, a9] <;> cases allIn 0 1048576 [a3, a5] <;> simp

theorem task_f (k : Nat) (hk : 3 ≤ k) (t : S39) : check_Task.f k t.f0 t.f1 = some (err (okTask t)) := by
  unfold check_Task.f okTask
  rw [within_f k _ _ _ (by simp) (by simp; omega)]
  simp only [Option.bind_some, told_f]

/-- The first task that is wrong, from place 'i' on. -/
def tail : List S39 → Int → Int × Int
  | [], _ => (-1, 0)
  | t :: l, i => if okTask t = true then tail l (i + 1) else (i + 1, 3)

theorem file_l0 (l : List S39) (hl : l.length ≤ 1000) : ∀ (d k i : Nat), i + d = l.length → d + 3 < k →
    check_File.l0 k l (l.length : Int) (i : Int) = some (tail (l.drop i) (i : Int)) := by
  intro d
  induction d with
  | zero =>
    intro k i hi' hk
    obtain ⟨k, rfl⟩ : ∃ m, k = m + 1 := ⟨k - 1, by omega⟩
    have hd : l.drop i = [] := List.drop_eq_nil_of_le (by omega)
    simp only [check_File.l0]
    rw [if_neg (by omega), hd]
    rfl
  | succ d ih =>
    intro k i hi' hk
    obtain ⟨k, rfl⟩ : ∃ m, k = m + 1 := ⟨k - 1, by omega⟩
    have hlt : i < l.length := by omega
    have hr : rd_T39 l (i : Int) = l[i] := by simp [rd_T39, hlt]
    have hd : l.drop i = l[i] :: l.drop (i + 1) := List.drop_eq_getElem_cons hlt
    simp only [check_File.l0]
    rw [if_pos (by omega), if_pos (by omega), if_pos (by omega), hr, hd, task_f k (by omega), Option.bind_some, wrap_next hlt hl]
    cases hok : okTask l[i] with
    | false => simp [err, tail, hok]
    | true =>
      rw [if_pos (by simp [err]), ih k (i + 1) (by omega) (by omega)]
      simp [tail, hok]

/-- What File answers. -/
def file (ok : Bool) (l : List S39) : Int × Int := if ok = true then (if (l.length : Int) > 64 then (65, 4) else tail l 0) else (0, 3)

theorem file_f (k : Nat) (hk : 80 ≤ k) (a0 a1 a2 a3 a4 a5 a6 a7 a8 a9 : Int) (l : List S39) (ops : List S30) :
    check_File.f k a0 a1 a2 a3 a4 a5 a6 a7 a8 a9 l ops = some (file (okConfig a0 a1 a2 a3 a4 a5 a6 a7 a8 a9) l) := by
  unfold check_File.f
  rw [config_f _ (by omega)]
  simp only [Option.bind_some]
  cases okConfig a0 a1 a2 a3 a4 a5 a6 a7 a8 a9 with
  | false => simp [err, file]
  | true =>
    by_cases h : (l.length : Int) > 64
    · simp [err, file, h]
    · rw [if_pos (by simp [err]), if_neg h]
      have := file_l0 l (by omega) l.length k 0 (by omega) (by omega)
      simpa [file, h] using this

theorem tail_ok : ∀ (l : List S39) (i : Int), (∀ t ∈ l, okTask t = true) → tail l i = (-1, 0)
  | [], _, _ => rfl
  | t :: l, i, h => by
    rw [tail, if_pos (h t (by simp))]
    exact tail_ok l (i + 1) fun t ht => h t (by simp [ht])

theorem tail_bad : ∀ (l : List S39) (i : Int) (m : Nat) (hm : m < l.length), (∀ (j : Nat) (hj : j < m), okTask l[j] = true) → okTask l[m] = false → tail l i = (i + m + 1, 3)
  | t :: l, i, 0, _, _, hb => by
    have hb : okTask t = false := hb
    rw [tail, hb]; simp
  | t :: l, i, m + 1, hm, h, hb => by
    have h0 : okTask t = true := h 0 (by omega)
    rw [tail, if_pos h0, tail_bad l (i + 1) m (by simpa using hm) (fun j hj => h (j + 1) (by omega)) hb]
    congr 1; omega

theorem good_ok : okConfig 9 2 2 0 1 0 3 1 4 5 = true := by decide

theorem shown_any (k : Nat) (hk : 80 ≤ k) : millwrightlaw04_shown.f k = some true := by
  unfold millwrightlaw04_shown.f millwrightlaw04_good.f
  simp only [Option.bind_some, file_f k hk, config_f k (by omega)]
  rw [show check_Task.f k 1 1 = some (err (okTask ⟨1, 1⟩)) from task_f k (by omega) ⟨1, 1⟩]
  decide

end Go.Proofs.Ytkldfjlbgmppfaa.MCheckBetween
