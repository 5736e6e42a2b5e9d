/- The walker's core, eleventh part: a row that is the caller's, cleared to its room's end. Written for this work. -/
import Derived.Test.YtnckikjcjgmdlaaGv10
namespace Go.Proofs.Ytnckikjcjgmdlaa.GV
open Go Go.RowKit
set_option linter.unusedVariables false
set_option linter.unusedSimpArgs false
section
variable {P : Program} {n : Nat} {ops : Array Oper} {Q : Exit → Act → World → Prop} [Dfs]
/-- what stands at i, and goes nowhere -/
def opNo (ops : Array Oper) (e : Env) (i : Nat) : Option (Op × TypeId) :=
  match ops[i]? with
  | none => none
  | some o => match wantE ops e o with
    | some true => match o.dst with
      | some _ => none
      | none => match plainOp o.op && o.op.operands.all (known e) with
        | true => some (o.op, o.type)
        | false => none
    | _ => none
end
section
variable {P : Program} {n : Nat} {ops : Array Oper} {Q : Exit → Act → World → Prop}
theorem opNo_sound {e : Env} {i : Nat} {op : Op} {ty : TypeId} (h : opNo ops e i = some (op, ty)) : ∃ o, ops[i]? = some o ∧ o.dst = none ∧ wantE ops e o = some true ∧ plainOp o.op = true ∧ o.op.operands.all (known e) = true ∧ o.op = op ∧ o.type = ty := by
  unfold opNo at h
  split at h
  · cases h
  · rename_i o ho
    split at h
    · rename_i hw
      split at h
      · cases h
      · rename_i hd
        split at h
        · rename_i hc
          simp only [Bool.and_eq_true] at hc
          simp only [Option.some.injEq, Prod.mk.injEq] at h
          obtain ⟨rfl, rfl⟩ := h
          exact ⟨o, ho, hd, hw, hc.1, hc.2, rfl, rfl⟩
        · cases h
    · cases h
end
section
variable {P : Program} {n : Nat} {ops : Array Oper} {Q : Exit → Act → World → Prop} [Dfs]
end
section
variable {P : Program} {n : Nat} {ops : Array Oper} {Q : Exit → Act → World → Prop}
end
section
variable {P : Program} {n : Nat} {ops : Array Oper} {Q : Exit → Act → World → Prop} [Dfs]
end
end Go.Proofs.Ytnckikjcjgmdlaa.GV
