/- The walker's core, seventeenth part: plain words on rounds: the first place at which something is said. Written for this work. -/
import Derived.Test.YtchcdadpahakfaaGv16
namespace Go.Proofs.Ytchcdadpahakfaa.GV
open Go Go.RowKit
set_option linter.unusedVariables false
set_option linter.unusedSimpArgs false
/-- what g says first, from i on, below n -/
def firstOf {ρ : Type} (g : Nat → Option ρ) (n i : Nat) : Option ρ := (List.range' i (n - i)).findSome? g
theorem firstOf_step {ρ : Type} (g : Nat → Option ρ) {n i : Nat} (h : i < n) : firstOf g n i = match g i with | some r => some r | none => firstOf g n (i + 1) := by
  unfold firstOf
  rw [show n - i = (n - (i + 1)) + 1 by omega, List.range'_succ, List.findSome?_cons]
  rfl
theorem firstOf_end {ρ : Type} (g : Nat → Option ρ) {n i : Nat} (h : n ≤ i) : firstOf g n i = none := by
  unfold firstOf
  rw [show n - i = 0 by omega]; rfl
theorem firstOf_none {ρ : Type} {g : Nat → Option ρ} {n i : Nat} (h : firstOf g n i = none) : ∀ j, i ≤ j → j < n → g j = none := by
  intro j h1 h2
  unfold firstOf at h
  rw [List.findSome?_eq_none_iff] at h
  exact h j (by rw [List.mem_range'_1]; omega)
theorem firstOf_some {ρ : Type} {g : Nat → Option ρ} {n i : Nat} {r : ρ} (h : firstOf g n i = some r) : ∃ j, i ≤ j ∧ j < n ∧ g j = some r ∧ ∀ k, i ≤ k → k < j → g k = none := by
  generalize hm : n - i = m
  induction m generalizing i with
  | zero => rw [firstOf_end g (by omega)] at h; cases h
  | succ m ih =>
    have hi : i < n := by omega
    rw [firstOf_step g hi] at h
    cases hg : g i with
    | some r' => rw [hg] at h; cases h; exact ⟨i, Nat.le_refl _, hi, hg, fun k h1 h2 => absurd h1 (by omega)⟩
    | none =>
      rw [hg] at h
      obtain ⟨j, h1, h2, h3, h4⟩ := ih h (by omega)
      refine ⟨j, by omega, h2, h3, fun k h5 h6 => ?_⟩
      by_cases hk : k = i
      · subst hk; exact hg
      · exact h4 k (by omega) h6
/-- out of rounds: with what was said, or at their end -/
def leave {τ ρ : Type} (t : τ) : Option ρ → τ ⊕ ρ
  | none => .inl t
  | some r => .inr r
/-- on to the next round, or out -/
def onward {τ ρ : Type} (i : Nat) : Option ρ → Nat ⊕ (τ ⊕ ρ)
  | none => .inl (i + 1)
  | some r => .inr (.inr r)
/-- rounds that count up and leave where something is said -/
theorem iter_first {ρ τ : Type} {f : Nat → Option (Nat ⊕ (τ ⊕ ρ))} (g : Nat → Option ρ) (n : Nat) {t : τ} (h : ∀ i, i < n → f i = some (onward i (g i))) (he : f n = some (.inr (.inl t))) :
    ∀ (K i : Nat), i ≤ n → n - i < K → iter f K i = some (leave t (firstOf g n i))
  | 0, i, _, hK => by omega
  | K + 1, i, hi, hK => by
    by_cases hlt : i < n
    · simp only [iter, h i hlt, firstOf_step g hlt]
      cases hg : g i with
      | some r => rfl
      | none => exact iter_first g n h he K (i + 1) (by omega) (by omega)
    · obtain rfl : i = n := by omega
      simp only [iter, he, firstOf_end g (Nat.le_refl _)]
      rfl
theorem iter_first0 {ρ τ : Type} {f : Nat → Option (Nat ⊕ (τ ⊕ ρ))} (g : Nat → Option ρ) (n : Nat) {t : τ} (h : ∀ i, i < n → f i = some (onward i (g i))) (he : f n = some (.inr (.inl t))) {K : Nat} (hK : n < K) :
    iter f K 0 = some (leave t (firstOf g n 0)) := iter_first g n h he K 0 (Nat.zero_le _) (by omega)
end Go.Proofs.Ytchcdadpahakfaa.GV
