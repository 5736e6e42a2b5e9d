/- The walker's core, ninth part: plain words on rounds and small numbers. Written for this work. -/
import Derived.Test.YtnckikjcjgmdlaaGv8
namespace Go.Proofs.Ytnckikjcjgmdlaa.GV
open Go Go.RowKit
set_option linter.unusedVariables false
set_option linter.unusedSimpArgs false
/-- what rounds come to: I holds at each head, μ falls, R holds of what leaves -/
theorem iter_total {σ ρ : Type} {f : σ → Option (σ ⊕ ρ)} (I : σ → Prop) (μ : σ → Nat) (R : ρ → Prop) (step : ∀ s, I s → (∃ s', f s = some (.inl s') ∧ I s' ∧ μ s' < μ s) ∨ (∃ r, f s = some (.inr r) ∧ R r)) :
    ∀ (K : Nat) (s : σ), I s → μ s < K → ∃ r, iter f K s = some r ∧ R r
  | 0, s, _, h => absurd h (Nat.not_lt_zero _)
  | K + 1, s, hI, h => by
    rcases step s hI with ⟨s', h1, h2, h3⟩ | ⟨r, h1, h2⟩
    · obtain ⟨r, hr, hR⟩ := iter_total I μ R step K s' h2 (by omega)
      exact ⟨r, by simp only [iter, h1]; exact hr, hR⟩
    · exact ⟨r, by simp only [iter, h1], h2⟩
/-- .. where they end at all -/
theorem iter_partial {σ ρ : Type} {f : σ → Option (σ ⊕ ρ)} (I : σ → Prop) (R : ρ → Prop) (step : ∀ s o, I s → f s = some o → (∃ s', o = .inl s' ∧ I s') ∨ (∃ r, o = .inr r ∧ R r)) :
    ∀ (K : Nat) (s : σ) (r : ρ), I s → iter f K s = some r → R r
  | 0, s, r, _, h => by cases h
  | K + 1, s, r, hI, h => by
    simp only [iter] at h
    cases hf : f s with
    | none => rw [hf] at h; cases h
    | some o =>
      rw [hf] at h
      rcases step s o hI hf with ⟨s', rfl, h2⟩ | ⟨r', rfl, h2⟩
      · exact iter_partial I R step K s' r h2 h
      · simp only [Option.some.injEq] at h; subst h; exact h2
theorem iter_more {σ ρ : Type} {f : σ → Option (σ ⊕ ρ)} : ∀ {K : Nat} {s : σ} {r : ρ}, iter f K s = some r → ∀ {K' : Nat}, K ≤ K' → iter f K' s = some r
  | 0, s, r, h, _, _ => by cases h
  | K + 1, s, r, h, K', hK => by
    obtain ⟨K', rfl⟩ : ∃ k, K' = k + 1 := ⟨K' - 1, by omega⟩
    simp only [iter] at h ⊢
    cases hf : f s with
    | none => rw [hf] at h; cases h
    | some o =>
      rw [hf] at h
      cases o with
      | inl s' => exact iter_more h (by omega)
      | inr r' => exact h
theorem wrap64_small {n : Int} (h1 : -9223372036854775808 ≤ n) (h2 : n ≤ 9223372036854775807) : IntKind.i64.wrap n = n := by rw [IntKind.wrap_i64]; omega
end Go.Proofs.Ytnckikjcjgmdlaa.GV
