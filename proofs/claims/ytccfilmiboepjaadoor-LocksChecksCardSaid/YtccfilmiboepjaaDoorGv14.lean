/- The walker's core, fourteenth part: letters of strings; places of arrays. Written for this work. -/
import Derived.Test.YtccfilmiboepjaaDoorGv13
namespace Go.Proofs.YtccfilmiboepjaaDoor.GV
open Go Go.RowKit
set_option linter.unusedVariables false
set_option linter.unusedSimpArgs false
section
variable {P : Program} {n : Nat} {ops : Array Oper} {Q : Exit → Act → World → Prop}
/-- s[i], s a string -/
theorem ge_letter {i d jn : Nat} {t ty : TypeId} {x y : Operand} {k' : IntKind} {j : Int} {s : ByteArray} {b : UInt8} {e : Env} {rest : List (Nat × Nat)} {w : World} (h : opAt n ops e i = some (d, .index t x y, ty))
    (hx : e.ev x = some (.string s)) (hy : e.ev y = some (.int k' j)) (ht : P.underlying t = some .string) (hj : j = (jn : Int)) (hb : s[jn]? = some b)
    (k : GE P n ops Q rest ((d, .int .u8 (b.toNat : Int)) :: e) w) : GE P n ops Q ((i, 0) :: rest) e w := by
  subst hj
  refine ge_val h (fun o w' hop hty hxt => ?_) k
  have hu : (underlying t).run P w' = .ok .string w' := by simp [underlying, ht]
  have hx' : e.evD x = .string s := by simp [Env.evD, hx]
  have hy' : e.evD y = .int k' (jn : Int) := by simp [Env.evD, hy]
  simp [execOp, hop, hx', hy', Instr.index, asIntOf, hu, hb]
end
end Go.Proofs.YtccfilmiboepjaaDoor.GV
