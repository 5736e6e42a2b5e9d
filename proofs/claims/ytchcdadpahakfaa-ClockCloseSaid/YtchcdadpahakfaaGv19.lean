/- The walker's core, nineteenth part: maps that are owned. Written for this work. -/
import Derived.Test.YtchcdadpahakfaaGv18
namespace Go.Proofs.Ytchcdadpahakfaa.GV
open Go Go.RowKit
set_option linter.unusedVariables false
set_option linter.unusedSimpArgs false
/-- keys of maps -/
class MKey (κ : Type) where
  dec : DecidableEq κ
  enc : κ → Value
  kind : TypeDesc
  same : ∀ a b, Instr.sameNow kind (enc a) (enc b) = some (decide (a = b))
  bits : ∀ a, Instr.sameBits 10000 (enc a) (enc a) = true
  chk : ∀ (P : Program) (w : World) (t : TypeId) (e : Bool) (a : κ), P.underlying t = some kind → (Instr.checkKey e 10000 t (enc a)).run P w = .ok () w
instance (κ : Type) [h : MKey κ] : DecidableEq κ := h.dec
instance : MKey Int where
  dec := inferInstance
  enc x := .int .i64 x
  kind := .int .i64
  same a b := by simp [Instr.sameNow]; rfl
  bits a := by simp [Instr.sameBits]
  chk P w t e a h := by
    unfold Instr.checkKey
    simp [underlying, h]
def entOf {κ ν : Type} [MKey κ] [Flat ν] (e : κ × ν) : Value × Option Value := (MKey.enc e.1, (Flat.cells e.2)[0]?)
def Own.map {κ ν : Type} [MKey κ] [Flat ν] (b : Nat) (m : List (κ × ν)) : Own :=
  ⟨[b], fun h => ∃ es clock, h b = some (.map es clock) ∧ es.toList.map (fun e => (e.key, some e.val)) = m.map entOf, fun h h' k ⟨es, c, h1, h2⟩ => ⟨es, c, (k b (by simp)).trans h1, h2⟩⟩
section
variable {P : Program} {n : Nat} {ops : Array Oper} {Q : Exit → Act → World → Prop} [Dfs]
end
end Go.Proofs.Ytchcdadpahakfaa.GV
