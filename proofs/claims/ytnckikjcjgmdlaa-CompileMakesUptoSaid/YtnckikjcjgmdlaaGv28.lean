/- The walker's core, 28th part: maps that are read. Written for this work. -/
import Derived.Test.YtnckikjcjgmdlaaGv27
namespace Go.Proofs.Ytnckikjcjgmdlaa.GV
open Go Go.RowKit
set_option linter.unusedVariables false
set_option linter.unusedSimpArgs false
/-- what a map that may be nil reads -/
def RdM {κ ν : Type} [MKey κ] [Flat ν] (w : World) (b : Option Nat) (m : List (κ × ν)) : Prop := match b with
  | none => m = []
  | some b => b < w.heap.size ∧ ∃ es c, w.heap[b]? = some (.map es c) ∧ es.toList.map (fun e => (e.key, some e.val)) = m.map entOf
section
variable {P : Program} {n : Nat} {ops : Array Oper} {Q : Exit → Act → World → Prop} [Dfs]
theorem ge_lookupR {κ ν : Type} [MKey κ] [Flat ν] {i d : Nat} {b : Option Nat} {t kt et : TypeId} {x y : Operand} {ty : TypeId} {m : List (κ × ν)} {k : κ} {z v : ν} {zv vv : Value} {e : Env} {rest : List (Nat × Nat)} {w : World}
    (h : opAt n ops e i = some (d, .lookup t x y false, ty)) (hx : e.ev x = some (.map b)) (hy : e.ev y = some (MKey.enc k)) (ht : P.underlying t = some (.map kt et)) (hk : P.underlying kt = some (MKey.kind κ))
    (hz : ∀ w', (zeroValue et).run P w' = .ok zv w') (hzc : Flat.cells z = [zv]) (hM : RdM w b m) (hv : (mget m k).getD z = v) (hvc : Flat.cells v = [vv])
    (kk : GE P n ops Q rest ((d, vv) :: e) w) : GE P n ops Q ((i, 0) :: rest) e w := by
  refine ge_val h (fun o w' hop hty hxt => ?_) kk
  have hu : (underlying t).run P w' = .ok (.map kt et) w' := by simp [underlying, ht]
  have hx' : e.evD x = .map b := by simp [Env.evD, hx]
  have hy' : e.evD y = MKey.enc k := by simp [Env.evD, hy]
  cases b with
  | none =>
    have hm : m = [] := hM
    subst hm
    have hc := MKey.chk P w' kt true k hk
    have : v = z := by rw [← hv]; rfl
    subst this
    rw [hzc] at hvc
    cases hvc
    rcases findKey_eq (P := P) (w := w') (κ := κ) (ν := ν) hk k [] [] rfl with ⟨g1, g2⟩ | ⟨v', j, val, g1, _⟩
    · simp only [execOp, hop, hx', hy', Instr.lookup, Sem.run_bind, hu, Result.andThen_ok, Sem.run_pure, hc, g2, hz w', List.isEmpty_toArray, List.isEmpty_nil]
      rfl
    · simp [mget] at g1
  | some b =>
    obtain ⟨hlt, es, c, hb, hes⟩ := hM
    have hb' : w'.heap[b]? = some (.map es c) := by rw [hxt.block b hlt]; exact hb
    have hg : (getObj b).run P w' = .ok (.map es c) w' := by simp [getObj, Sem.run, hb']
    have hc := MKey.chk P w' kt es.isEmpty k hk
    rcases findKey_eq (P := P) (w := w') hk k es.toList m hes with ⟨g1, g2⟩ | ⟨v', j, val, g1, g2, g3, _⟩
    · have : v = z := by rw [← hv, g1]; rfl
      subst this
      rw [hzc] at hvc
      cases hvc
      simp only [execOp, hop, hx', hy', Instr.lookup, Sem.run_bind, hu, Result.andThen_ok, hg, Sem.run_pure, hc, g2, hz w']
      rfl
    · have : v = v' := by rw [← hv, g1]; rfl
      subst this
      rw [hvc] at g2
      simp only [List.getElem?_cons_zero, Option.some.injEq] at g2
      subst g2
      simp only [execOp, hop, hx', hy', Instr.lookup, Sem.run_bind, hu, Result.andThen_ok, hg, Sem.run_pure, hc, g3]
      rfl
end
end Go.Proofs.Ytnckikjcjgmdlaa.GV
