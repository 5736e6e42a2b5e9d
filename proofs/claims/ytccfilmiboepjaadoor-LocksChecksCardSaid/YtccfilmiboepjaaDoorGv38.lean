/- The walker's core, 38th part: strings put together and cut. Written for this work. -/
import Derived.Test.YtccfilmiboepjaaDoorGv37
namespace Go.Proofs.YtccfilmiboepjaaDoor.GV
open Go Go.RowKit
set_option linter.unusedVariables false
set_option linter.unusedSimpArgs false
section
variable {P : Program} {n : Nat} {ops : Array Oper} {Q : Exit → Act → World → Prop}
/-- a + b, strings -/
theorem ge_concat {i d : Nat} {t t2 ty : TypeId} {x y : Operand} {a b : ByteArray} {e : Env} {rest : List (Nat × Nat)} {w : World} (h : opAt n ops e i = some (d, .binOp .add t x y t2, ty))
    (hx : e.ev x = some (.string a)) (hy : e.ev y = some (.string b)) (hl : a.size + b.size ≤ 9223372036854775807) (k : GE P n ops Q rest ((d, .string (a ++ b)) :: e) w) : GE P n ops Q ((i, 0) :: rest) e w := by
  refine ge_val h (fun o w' hop hty hxt => ?_) k
  have hx' : e.evD x = .string a := by simp [Env.evD, hx]
  have hy' : e.evD y = .string b := by simp [Env.evD, hy]
  simp [execOp, hop, hx', hy', binOp, eqGuard, Op.stringOp]
  omega
/-- s[lo:hi] -/
theorem ge_strPart {i d lo hi : Nat} {t ty : TypeId} {x : Operand} {xl xh : Option Operand} {s : ByteArray} {e : Env} {rest : List (Nat × Nat)} {w : World} (h : opAt n ops e i = some (d, .slice t x xl xh none, ty))
    (hx : e.ev x = some (.string s)) (ht : P.underlying t = some .string)
    (hl : match xl with | some y => ∃ k j, e.ev y = some (.int k j) ∧ j = (lo : Int) | none => lo = 0) (hh : match xh with | some y => ∃ k j, e.ev y = some (.int k j) ∧ j = (hi : Int) | none => hi = s.size)
    (h1 : hi ≤ s.size) (h2 : lo ≤ hi) (k : GE P n ops Q rest ((d, .string (s.extract lo hi)) :: e) w) : GE P n ops Q ((i, 0) :: rest) e w := by
  refine ge_val h (fun o w' hop hty hxt => ?_) k
  have hu : (underlying t).run P w' = .ok .string w' := by simp [underlying, ht]
  have hx' : e.evD x = .string s := by simp [Env.evD, hx]
  cases xl with
  | none =>
    simp only at hl
    subst hl
    cases xh with
    | none =>
      simp only at hh
      subst hh
      simp [execOp, hop, hx', Instr.sliceAt, Instr.slice, hu, Instr.sliceBounds]
    | some y =>
      obtain ⟨kk, j, hj, rfl⟩ := hh
      have hy' : e.evD y = .int kk (hi : Int) := by simp [Env.evD, hj]
      simp [execOp, hop, hx', hy', Instr.sliceAt, Instr.slice, hu, Instr.sliceBounds, Instr.sliceBound, asIntOf, h1]
  | some z =>
    obtain ⟨kz, jz, hjz, rfl⟩ := hl
    have hz' : e.evD z = .int kz (lo : Int) := by simp [Env.evD, hjz]
    cases xh with
    | none =>
      simp only at hh
      subst hh
      simp [execOp, hop, hx', hz', Instr.sliceAt, Instr.slice, hu, Instr.sliceBounds, Instr.sliceBound, asIntOf, h2]
    | some y =>
      obtain ⟨kk, j, hj, rfl⟩ := hh
      have hy' : e.evD y = .int kk (hi : Int) := by simp [Env.evD, hj]
      simp [execOp, hop, hx', hy', hz', Instr.sliceAt, Instr.slice, hu, Instr.sliceBounds, Instr.sliceBound, asIntOf, h1, h2]
end
end Go.Proofs.YtccfilmiboepjaaDoor.GV
