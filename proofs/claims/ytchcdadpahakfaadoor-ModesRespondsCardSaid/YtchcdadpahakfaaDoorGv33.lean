/- The walker's core, 33rd part: where orders meet again. Written for this work. -/
import Derived.Test.YtchcdadpahakfaaDoorGv32
namespace Go.Proofs.YtchcdadpahakfaaDoor.GV
open Go Go.RowKit
set_option linter.unusedVariables false
set_option linter.unusedSimpArgs false
section
variable {P : Program} {n : Nat} {ops : Array Oper} {al : List Al} {Q : Exit → Act → World → Prop} [Dfs]
theorem go3_keep {o : Ord} (e' : Env) {e : Env} {w : World} (k : Env.all e e') (h : GO3 P n ops al Q o e' w) : GO3 P n ops al Q o e w := fun a hF => h a (hF.weaken k)
/-- what comes behind is shown once -/
theorem go3_join {X : Type} (o' : Ord) (C : X → Env → World → Prop) {o : Ord} {e : Env} {w : World} (hj : ∀ x e w, C x e w → GO3 P n ops al Q o' e w) (k : (∀ x e w, C x e w → GO3 P n ops al Q o' e w) → GO3 P n ops al Q o e w) : GO3 P n ops al Q o e w := k hj
end
/-- the cells of a block that is owned, spelt out -/
theorem St.nc {w0 w : World} {L : List Own} {b : Nat} {cs : Array Value} {t : TypeId} {fr : Nat × Nat} (h : St w0 w (Own.blk b (.cells cs t fr) :: L)) (cs' : Array Value) (e : cs = cs') : St w0 w (Own.blk b (.cells cs' t fr) :: L) := e ▸ h
/-- a row's head, its length spelt out -/
theorem St.reN {α : Type} [Flat α] {w0 w : World} {L : List Own} {A : Option Addr} {n c t : Nat} {l : List α} (h : St w0 w (Own.of (.slice A n c) t l :: L)) : St w0 w (Own.of (.slice A l.length c) t l :: L) := by
  have := h.lenAt 0 rfl
  rw [← this]; exact h
end Go.Proofs.YtchcdadpahakfaaDoor.GV
