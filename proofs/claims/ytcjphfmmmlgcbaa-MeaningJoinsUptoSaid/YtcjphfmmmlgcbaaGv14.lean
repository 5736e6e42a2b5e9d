/- The walker's core, fourteenth part: letters of strings; places of arrays. Written for this work. -/
import Derived.Test.YtcjphfmmmlgcbaaGv13
namespace Go.Proofs.Ytcjphfmmmlgcbaa.GV
open Go Go.RowKit
set_option linter.unusedVariables false
set_option linter.unusedSimpArgs false
section
variable {P : Program} {n : Nat} {ops : Array Oper} {Q : Exit → Act → World → Prop} [Dfs]
/-- the address of a[i], a an array's variable -/
theorem ge_arrAddr {i d jn len el b o0 sz : Nat} {t ty : TypeId} {x y : Operand} {k' : IntKind} {j : Int} {e : Env} {rest : List (Nat × Nat)} {w : World} (h : opAt n ops e i = some (d, .indexAddr t x y, ty))
    (hx : e.ev x = some (.pointer (some ⟨b, o0, none⟩))) (hy : e.ev y = some (.int k' j)) (ht : P.underlying t = some (.array len el)) (hs : (P.info? el).map (·.size) = some sz) (hj : j = (jn : Int)) (hm : jn < len)
    (k : GE P n ops Q rest ((d, .pointer (some ⟨b, o0 + jn * sz, none⟩)) :: e) w) : GE P n ops Q ((i, 0) :: rest) e w := by
  subst hj
  refine ge_val h (fun o w' hop hty hxt => ?_) k
  obtain ⟨inf, hi', hsz'⟩ := Option.map_eq_some_iff.1 hs
  have hu' : (underlying t).run P w' = .ok (.array len el) w' := by simp [underlying, ht]
  have hz : (sizeOf el).run P w' = .ok sz w' := by simp [sizeOf, typeInfo, hi', hsz']
  have hx' : e.evD x = .pointer (some ⟨b, o0, none⟩) := by simp [Env.evD, hx]
  have hy' : e.evD y = .int k' (jn : Int) := by simp [Env.evD, hy]
  have hjl : (jn : Int) < (len : Int) := by omega
  have h2 : Addr.add ⟨b, o0, none⟩ (jn * sz) = ⟨b, o0 + jn * sz, none⟩ := by unfold Addr.add; split <;> simp_all
  simp [execOp, hop, hx', hy', Instr.indexAt, asIntOf, hu', hz, hjl, hm, h2, Instr.sureAddr]
end
end Go.Proofs.Ytcjphfmmmlgcbaa.GV
