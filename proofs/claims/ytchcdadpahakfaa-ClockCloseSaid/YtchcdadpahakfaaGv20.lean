/- The walker's core, twentieth part: regions of several orders, each effect held against the loads that need not be ahead of it alone (statements by program from the sixth and tenth part). Written for this work. -/
import Derived.Test.YtchcdadpahakfaaGv19
namespace Go.Proofs.Ytchcdadpahakfaa.GV
open Go Go.RowKit
set_option linter.unusedVariables false
set_option linter.unusedSimpArgs false
/-- what an operation reads -/
def adr : List (Nat × List Addr) → Nat → List Addr
  | [], _ => []
  | (j, l) :: r, i => match Nat.beq j i with | true => l ++ adr r i | false => adr r i
/-- must i be ahead of j? -/
def bound (ops : Array Oper) (j i : Nat) : Bool := match ops[j]? with | some o => o.after.any (fun e => Region.binds .any e && e.on == i) | none => false
theorem RS.of2 {S : List Addr} {l : List Did} {w w' : World} (he : S = didAddrs l) (h : Loads l w) (k : Loads l w') : RS S w w' := he ▸ RS.of h k
section
variable (P : Program) (ops : Array Oper) (al : List (Nat × List Addr))
def SteadyR2 (i : Nat) (v : Value) (a : Act) (w : World) : Prop :=
  ∃ o, ops[i]? = some o ∧ ((Region.wanted o (yielded ops a.tmps) = true ∧ ∀ w', RS (adr al i) w w' → ((execOp a.eval o).run P w' = .ok (.value v) w')) ∨
    (Region.wanted o (yielded ops a.tmps) = false ∧ v = undef))
end
section
variable {P : Program} {ops : Array Oper} {al : List (Nat × List Addr)} {Q : Exit → Act → World → Prop}
theorem SteadyR2.wpOp {i : Nat} {v : Value} {a : Act} {w : World} (h : SteadyR2 P ops al i v a w) {K : Act → World → Prop} (k : K (a.put (dstOf ops i) v) w) : Go.wpOp P ops Q i K a w := by
  obtain ⟨o, ho, h⟩ := h
  unfold Go.wpOp
  simp only [dstOf, ho, Option.bind_some] at k
  simp only [ho]
  rcases h with ⟨hw, h⟩ | ⟨hw, rfl⟩
  · simp only [hw, if_true]
    refine .inl ?_
    unfold Oper.wp; rw [h w (RS.refl _ w)]; exact k
  · simp only [hw, Bool.false_eq_true, if_false]; exact k
theorem SteadyR2.of_same {i : Nat} {o : Oper} {v : Value} {a a' : Act} {w : World} (hi : ops[i]? = some o) (h : SteadyR2 P ops al i v a w) (he : execOp a'.eval o = execOp a.eval o)
    (hw : Region.wanted o (yielded ops a'.tmps) = Region.wanted o (yielded ops a.tmps)) : SteadyR2 P ops al i v a' w := by
  obtain ⟨o', ho', h⟩ := h
  obtain rfl : o' = o := by rw [hi] at ho'; exact (Option.some.inj ho').symm
  exact ⟨o', hi, by rw [he, hw]; exact h⟩
theorem SteadyR2.ext {i : Nat} {v : Value} {a : Act} {w w' : World} (h : SteadyR2 P ops al i v a w) (k : RS (adr al i) w w') : SteadyR2 P ops al i v a w' := by
  obtain ⟨o, ho, h⟩ := h
  refine ⟨o, ho, ?_⟩
  rcases h with ⟨hw, h⟩ | h
  · exact .inl ⟨hw, fun w2 h2 => h w2 (k.trans h2)⟩
  · exact .inr h
end
section
variable {P : Program} {n : Nat} {ops : Array Oper} {al : List (Nat × List Addr)} {Q : Exit → Act → World → Prop} [Dfs]
end
section
variable {P : Program} {n : Nat} {ops : Array Oper} {al : List (Nat × List Addr)} {Q : Exit → Act → World → Prop} [Dfs]
end
end Go.Proofs.Ytchcdadpahakfaa.GV
