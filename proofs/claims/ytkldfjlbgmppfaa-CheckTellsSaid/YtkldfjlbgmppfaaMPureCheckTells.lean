/- CheckTells: configs, tasks and files are right as the document says. Numbers and lists alone. -/
import Derived.Test.YtkldfjlbgmppfaaMCheckTellsx3
import Derived.Test.YtkldfjlbgmppfaaCkMCheckTells
namespace Go.Proofs.Ytkldfjlbgmppfaa.Pure
open Go.RowKit Go.Proofs.Ytkldfjlbgmppfaa.MCheckTells Go.Proofs.Ytkldfjlbgmppfaa.Plain Go.Proofs.YtkldfjlbgmppfaaW.PrintWords Go.Proofs.YtkldfjlbgmppfaaW.PrintLast Go.Proofs.YtkldfjlbgmppfaaW.PrintMore

theorem mn_ge (a b c : Int) : mn a b ≥ c ↔ a ≥ c ∧ b ≥ c := by unfold mn; split <;> omega
theorem mx_le (a b c : Int) : mx a b ≤ c ↔ a ≤ c ∧ b ≤ c := by unfold mx; split <;> omega

theorem ref_config (a0 a1 a2 a3 a4 a5 a6 a7 a8 a9 : Int) : millwrightref04_Config.f a0 a1 a2 a3 a4 a5 a6 a7 a8 a9 = some (okConfig a0 a1 a2 a3 a4 a5 a6 a7 a8 a9) := by
  unfold millwrightref04_Config.f
  simp only [mn_ge, mx_le]
  have hiff := okConfig_iff a0 a1 a2 a3 a4 a5 a6 a7 a8 a9
  cases h : okConfig a0 a1 a2 a3 a4 a5 a6 a7 a8 a9 with
  | true =>
    rw [h] at hiff
    have hh := hiff.1 rfl
    rw [if_pos (by omega), if_pos (by omega), if_pos (by omega), if_pos (by omega)]
    have : a5 ≥ 0 := by omega
    simp [this]
  | false =>
    rw [h] at hiff
    have hh := fun q => Bool.false_ne_true (hiff.2 q)
    repeat' split
    all_goals first
      | rfl
      | (by_cases h5 : a5 ≥ 0
         · exact absurd (by omega) hh
         · simp [h5])

theorem ref_task (t : S39) : millwrightref04_Task.f t.f0 t.f1 = some (okTask t) := by
  unfold millwrightref04_Task.f
  simp only [mn_ge, mx_le]
  have hiff := okTask_iff t
  cases h : okTask t with
  | true =>
    rw [h] at hiff
    have hh := hiff.1 rfl
    have h1 : t.f0 ≤ 1048576 ∧ t.f1 ≤ 1048576 := by omega
    rw [if_pos (by omega)]
    simp [h1]
  | false =>
    rw [h] at hiff
    have hh := fun q => Bool.false_ne_true (hiff.2 q)
    split
    · have h1 : ¬ (t.f0 ≤ 1048576 ∧ t.f1 ≤ 1048576) := fun h2 => hh (by omega)
      rw [decide_eq_false h1]
    · rfl

theorem ref_l0 (l : List S39) (hl : l.length ≤ 1000) : ∀ (d k i : Nat), i + d = l.length → d < k → millwrightref04_File.l0 k l (i : Int) = some (tail (l.drop i) (i : Int)) := by
  intro d
  induction d with
  | zero =>
    intro k i hi hk
    obtain ⟨k, rfl⟩ : ∃ m, k = m + 1 := ⟨k - 1, by omega⟩
    have hd : l.drop i = [] := List.drop_eq_nil_of_le (by omega)
    simp only [millwrightref04_File.l0]
    rw [if_neg (by omega), hd]
    rfl
  | succ d ih =>
    intro k i hi hk
    obtain ⟨k, rfl⟩ : ∃ m, k = m + 1 := ⟨k - 1, by omega⟩
    have hlt : i < l.length := by omega
    have hr : rd_T39 l (i : Int) = l[i] := by simp [rd_T39, hlt]
    have hd : l.drop i = l[i] :: l.drop (i + 1) := List.drop_eq_getElem_cons hlt
    simp only [millwrightref04_File.l0]
    rw [if_pos (by omega), if_pos (by omega), hr, hd, ref_task, Option.bind_some, wrap_next hlt hl]
    cases hok : okTask l[i] with
    | false => simp [tail, hok]
    | true =>
      rw [if_pos rfl, ih k (i + 1) (by omega) (by omega)]
      simp [tail, hok]

theorem ref_file (k : Nat) (hk : 80 ≤ k) (a0 a1 a2 a3 a4 a5 a6 a7 a8 a9 : Int) (l : List S39) : millwrightref04_File.f k a0 a1 a2 a3 a4 a5 a6 a7 a8 a9 l = some (file (okConfig a0 a1 a2 a3 a4 a5 a6 a7 a8 a9) l) := by
  unfold millwrightref04_File.f
  rw [ref_config, Option.bind_some]
  cases okConfig a0 a1 a2 a3 a4 a5 a6 a7 a8 a9 with
  | false => simp [file]
  | true =>
    by_cases h : (l.length : Int) > 64
    · simp [file, h]
    · rw [if_pos rfl, if_neg h]
      have := ref_l0 l (by omega) l.length k 0 (by omega) (by omega)
      simpa [file, h] using this

theorem loop (l : List S39) (hl : l.length ≤ 1000) : ∀ (d k i : Nat), i + d = l.length → d + 10 ≤ k → millwrightlaw04_CheckTells.l0 k l true (i : Int) = some true := by
  intro d
  induction d with
  | zero =>
    intro k i hi hk
    obtain ⟨k, rfl⟩ : ∃ m, k = m + 1 := ⟨k - 1, by omega⟩
    simp only [millwrightlaw04_CheckTells.l0]
    rw [if_neg (by omega)]
  | succ d ih =>
    intro k i hi hk
    obtain ⟨k, rfl⟩ : ∃ m, k = m + 1 := ⟨k - 1, by omega⟩
    have hlt : i < l.length := by omega
    have hr : rd_T39 l (i : Int) = l[i] := by simp [rd_T39, hlt]
    simp only [millwrightlaw04_CheckTells.l0]
    rw [if_pos (by omega), if_pos (by omega), hr, ref_task, Option.bind_some, task_f k (by omega), Option.bind_some, Option.bind_some, Option.bind_some, wrap_next hlt hl, ih k (i + 1) (by omega) (by omega)]
    cases okTask l[i] <;> simp [err]

/-- The plain law. -/
theorem CheckTells (a0 a1 a2 a3 a4 a5 a6 a7 a8 a9 : Int) (l : List S39) : ∃ k, millwrightlaw04_CheckTells.f k a0 a1 a2 a3 a4 a5 a6 a7 a8 a9 l = some true := by
  refine ⟨300, ?_⟩
  unfold millwrightlaw04_CheckTells.f
  rw [shown_any 300 (by omega), Option.bind_some]
  have hn : mn (l.length : Int) 80 = ((min l.length 80 : Nat) : Int) := by unfold mn; split <;> omega
  rw [hn, if_pos (by omega), if_pos (by omega), Option.bind_some, Int.toNat_natCast]
  generalize hy : l.take (min l.length 80) = y
  have hyl : y.length ≤ 80 := by rw [← hy, List.length_take]; omega
  rw [file_f 300 (by omega), Option.bind_some, ref_file 300 (by omega), Option.bind_some, ref_config, Option.bind_some, if_pos rfl, if_pos rfl, config_f 300 (by omega), Option.bind_some, Option.bind_some, Option.bind_some]
  have hj : millwrightlaw04_CheckTells.j0 300 y true false = some true := by
    simp only [millwrightlaw04_CheckTells.j0]
    rw [if_neg (by decide)]
    exact loop y (by omega) y.length 299 0 (by omega) (by omega)
  cases okConfig a0 a1 a2 a3 a4 a5 a6 a7 a8 a9 <;> simp [err, hj]

end Go.Proofs.Ytkldfjlbgmppfaa.Pure
