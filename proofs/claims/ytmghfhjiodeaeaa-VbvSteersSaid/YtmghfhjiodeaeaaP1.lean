/- Plain law of Joins. -/
import Derived.Test.YtmghfhjiodeaeaaU7
namespace Go.Proofs.Ytmghfhjiodeaeaa

theorem nd_le : ∀ {s : Sq} (us : List Un) {wt m : Int}, nd s us wt = some m → m ≤ most s
  | s, [], wt, m, h => by
    simp only [nd] at h
    split at h
    · simp at h; omega
    · cases h
  | s, x :: l, wt, m, h => by
    simp only [nd] at h
    cases hl : nd s l wt with
    | none => rw [hl] at h; cases h
    | some m1 =>
      rw [hl] at h
      simp only [Option.bind_some] at h
      split at h
      · simp at h; omega
      · cases h
theorem nd_app {s : Sq} (a b : List Un) (wt : Int) : nd s (a ++ b) wt = (nd s b wt).bind (nd s a) := by
  induction a with
  | nil =>
    cases h : nd s b wt with
    | none => simpa using h
    | some m => simp only [List.nil_append, Option.bind_some, nd]; rw [if_pos (nd_le b h), h]
  | cons x l ih =>
    rw [List.cons_append]
    simp only [nd]
    rw [ih]
    cases nd s b wt with
    | none => rfl
    | some m => rfl
theorem prp_app {s : Sq} {a b : List Un} (ha : a.length ≤ 100) (hb : b.length ≤ 100) : prp s (a ++ b) 0 = (prp s a 0 && prp s b 0) := by
  unfold prp
  rw [decide_eq_true (p := (a ++ b).length ≤ 256) (by rw [List.length_append]; omega), decide_eq_true (p := a.length ≤ 256) (by omega), decide_eq_true (p := b.length ≤ 256) (by omega), List.all_append]
  cases vs s <;> cases decide ((0 : Int) ≤ 0) <;> cases decide ((0 : Int) ≤ cap s) <;> cases a.all uok <;> cases b.all uok <;> rfl
theorem joins {s : Sq} {a b : List Un} (ha : a.length ≤ 100) (hb : b.length ≤ 100) (wt : Int) :
    ((ned s b wt).2 ≠ 0 → (ned s (a ++ b) wt).2 = (ned s b wt).2 ∨ (ned s (a ++ b) wt).2 = 1) ∧ ((ned s b wt).2 = 0 → ned s a (ned s b wt).1 = ned s (a ++ b) wt) := by
  by_cases h : prp s b 0 = true ∧ 0 ≤ wt
  · have e1 : ned s b wt = (match nd s b wt with | some m => (m, 0) | none => (0, 9)) := by unfold ned; rw [if_pos h]; cases nd s b wt <;> rfl
    have hk := (vs_true.1 (prp_true h.1).1).ok
    rw [e1]
    cases hn : nd s b wt with
    | none =>
      refine ⟨fun _ => ?_, fun h0 => by cases h0⟩
      unfold ned
      split
      · rw [nd_app, hn]; exact .inl rfl
      · exact .inr rfl
    | some n =>
      refine ⟨fun h0 => absurd rfl h0, fun _ => ?_⟩
      have hb := nd_bd hk b wt n (prp_true h.1).2.2.2.2 h.2 hn
      show ned s a n = _
      unfold ned
      rw [prp_app ha ‹_›, h.1, nd_app, hn]
      simp only [Bool.and_true, Option.bind_some]
      by_cases hp : prp s a 0 = true
      · rw [if_pos ⟨hp, hb.1⟩, if_pos ⟨hp, h.2⟩]
      · rw [if_neg (fun q => hp q.1), if_neg (fun q => hp q.1)]
  · have e1 : ned s b wt = (0, 1) := by unfold ned; rw [if_neg h]
    rw [e1]
    refine ⟨fun _ => .inr ?_, fun h0 => by cases h0⟩
    unfold ned
    rw [if_neg]
    rintro ⟨q1, q2⟩
    rw [prp_app ha hb] at q1
    exact h ⟨by simp at q1; exact q1.2, q2⟩
end Go.Proofs.Ytmghfhjiodeaeaa
