/- The walker's core, ninth part: plain words on rounds and small numbers. Written for this work. -/
import Derived.Test.YtchcdadpahakfaaGv8
namespace Go.Proofs.Ytchcdadpahakfaa.GV
open Go Go.RowKit
set_option linter.unusedVariables false
set_option linter.unusedSimpArgs false
/-- what rounds come to: I holds at each head, μ falls, R holds of what leaves -/
theorem iter_total {σ ρ : Type} {f : σ → Option (σ ⊕ ρ)} (I : σ → Prop) (μ : σ → Nat) (R : ρ → Prop) (step : ∀ s, I s → (∃ s', f s = some (.inl s') ∧ I s' ∧ μ s' < μ s) ∨ (∃ r, f s = some (.inr r) ∧ R r)) :
    ∀ (K : Nat) (s : σ), I s → μ s < K → ∃ r, iter f K s = some r ∧ R r
  | 0, s, _, h => absurd h (Nat.not_lt_zero _)
  | K + 1, s, hI, h => by
    rcases step s hI with ⟨s', h1, h2, h3⟩ | ⟨r, h1, h2⟩
    · obtain ⟨r, hr, hR⟩ := iter_total I μ R step K s' h2 (by omega)
      exact ⟨r, by simp only [iter, h1]; exact hr, hR⟩
    · exact ⟨r, by simp only [iter, h1], h2⟩
theorem wrap64_small {n : Int} (h1 : -9223372036854775808 ≤ n) (h2 : n ≤ 9223372036854775807) : IntKind.i64.wrap n = n := by rw [IntKind.wrap_i64]; omega
theorem St.globOf {w0 w : World} {L : List Own} (h : St w0 w L) (m : Nat) {b : Nat} {cs : Array Value} {t : TypeId} {fr : Nat × Nat} (hm : L[m]? = some (Own.blk b (.cells cs t fr))) : Glob w b cs.toList := fun j v hj => h.cell m hm (by simpa using hj)
theorem ge_same {P : Program} {n : Nat} {ops : Array Oper} {Q : Exit → Act → World → Prop} {t : Nat} {v v' : Value} {e : Env} {order : List (Nat × Nat)} {w : World} (he : e.get t = some v) (h : v = v') (k : GE P n ops Q order ((t, v') :: e) w) : GE P n ops Q order e w := by
  subst h
  intro a hF
  refine k a ⟨hF.size, hF.defers, fun s u hs => ?_⟩
  simp only [Env.get] at hs
  cases hb : Nat.beq t s with
  | true =>
    rw [hb] at hs
    have : t = s := Nat.eq_of_beq_eq_true hb
    subst this
    simp only [Option.some.injEq] at hs
    subst hs
    exact hF.get t _ he
  | false => rw [hb] at hs; exact hF.get s u hs
section
variable {P : Program} {n : Nat} {Q : Exit → Act → World → Prop} [Dfs]
end
end Go.Proofs.Ytchcdadpahakfaa.GV
