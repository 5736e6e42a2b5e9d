/- The walker's core, 24th part: a part of a slice, in a region of several orders. Written for this work. -/
import Derived.Test.YtcogbnkioobmkaaDoorGv23
namespace Go.Proofs.YtcogbnkioobmkaaDoor.GV
open Go Go.RowKit
set_option linter.unusedVariables false
set_option linter.unusedSimpArgs false
section
variable {P : Program} {n : Nat} {ops : Array Oper} {al : List (Nat × List Addr)} {Q : Exit → Act → World → Prop}
theorem go2_part {i d t el sz m c : Nat} {lo hi : Nat} {x : Operand} {xl xh : Option Operand} {ty : TypeId} {A : Option Addr} {e : Env} {r0 : Ord} {w : World} (h : opAt n ops e i = some (d, .slice t x xl xh none, ty))
    (hx : e.ev x = some (.slice A m c)) (hl : (match xl with | none => lo = 0 | some y => ∃ k j, e.ev y = some (.int k j) ∧ j = (lo : Int))) (hh : (match xh with | none => hi = m | some y => ∃ k j, e.ev y = some (.int k j) ∧ j = (hi : Int)))
    (ht : P.underlying t = some (.slice el)) (hs : (P.info? el).map (·.size) = some sz) (h1 : lo ≤ hi) (h2 : hi ≤ c)
    (k : GO2 P n ops al Q r0 ((d, .slice (subA A c lo sz) (hi - lo) (c - lo)) :: e) w) : GO2 P n ops al Q (.vals [i] r0) e w := by
  refine go2_pv h (fun o w' hop hty => ?_) k
  obtain ⟨inf, hi', hsz⟩ := Option.map_eq_some_iff.1 hs
  have hu : (underlying t).run P w' = .ok (.slice el) w' := by simp [underlying, ht]
  have hz : (sizeOf el).run P w' = .ok sz w' := by simp [sizeOf, typeInfo, hi', hsz]
  have hb : (Instr.sliceBounds true m c (xl.map e.evD) (xh.map e.evD) none).run P w' = .ok (lo, hi, c) w' := by
    have e1 : (hi : Int) ≤ (c : Int) := by omega
    have e2 : (lo : Int) ≤ (hi : Int) := by omega
    cases xl with
    | none =>
      simp only at hl
      subst hl
      cases xh with
      | none => simp only at hh; subst hh; simp [Instr.sliceBounds, Instr.sliceBound, asIntOf]
      | some y => obtain ⟨k', j, hy, rfl⟩ := hh; simp [Instr.sliceBounds, Instr.sliceBound, asIntOf, Env.evD, hy, h2]
    | some z =>
      obtain ⟨k1, j1, hz1, rfl⟩ := hl
      cases xh with
      | none => simp only at hh; subst hh; simp [Instr.sliceBounds, Instr.sliceBound, asIntOf, Env.evD, hz1, h1]
      | some y => obtain ⟨k', j, hy, rfl⟩ := hh; simp [Instr.sliceBounds, Instr.sliceBound, asIntOf, Env.evD, hy, hz1, h1, h2]
  have hA : (Instr.sliceAt t (.slice A m c) (xl.map e.evD) (xh.map e.evD) none).run P w' = .ok (.slice (subA A c lo sz) (hi - lo) (c - lo)) w' := by
    simp [Instr.sliceAt, Instr.slice, hu, hz, hb, subA]
  have hev : e.evD x = .slice A m c := by simp [Env.evD, hx]
  simp only [execOp, hop, hev, Option.map_none, Sem.run_bind, hA, Result.andThen_ok, Sem.run_pure]
end
end Go.Proofs.YtcogbnkioobmkaaDoor.GV
