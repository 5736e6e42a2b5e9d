/- The walker's core, 43rd part: rows of rows whose rows are stored into, or appended to for nothing. Written for this work. -/
import Derived.Test.YtchcdadpahakfaaGv24
namespace Go.Proofs.Ytchcdadpahakfaa.GV
open Go Go.RowKit
set_option linter.unusedVariables false
set_option linter.unusedSimpArgs false
section
variable {P : Program}
variable {n : Nat} {ops : Array Oper} {Q : Exit → Act → World → Prop} [Dfs]
/-- one row more behind a row of rows -/
theorem ge_nestAdd {i d m t bytes c1 b1 T e0 cc : Nat} {α : Type} [Flat α] {A : Option Addr} {x y : Operand} {ty : TypeId} {X : Rows} {l : List α} {ls : List (List α)} {e : Env} {rest : List (Nat × Nat)} {w0 w : World} {L : List Own}
    (h : opAt n ops e i = some (d, .call { callee := .builtin .append, args := #[x, y], argTypes := #[t, t] }, ty)) (hx : e.ev x = some X.val) (hy : e.ev y = some (.slice (some ⟨b1, 0, none⟩) 1 c1))
    (ht : P.underlying t = some (.slice T)) (hi : (P.info? T).map (fun i => (i.zero, i.size, i.bytes)) = some (some (.slice none 0 0), 1, bytes))
    (hS : St w0 w (Own.nest X T e0 ls :: Own.of (.slice A l.length cc) e0 l :: Own.blk b1 (.cells #[.slice A l.length cc] T (0, 0)) :: L)) (hb0 : Nat.blt 0 bytes = true) (hlen : (ls.length + 1) * bytes ≤ 140737488355328)
    (k : ∀ (Y : Rows) w1, St w0 w1 (Own.nest Y T e0 (ls ++ [l]) :: L) → GE P n ops Q rest ((d, Y.val) :: e) w1) : GE P n ops Q ((i, m + 2) :: rest) e w := by
  obtain ⟨⟨p1, p2⟩, h1⟩ := hS.nestOpen
  have h2 : St w0 w (Own.of X.val T X.hs :: Own.blk b1 (.cells (Flat.cells (⟨A, l.length, cc⟩ : Hdr)).toArray T (0, 0)) :: Own.fam e0 X.hs ls :: Own.of (.slice A l.length cc) e0 l :: L) := by
    refine h1.perm (List.Perm.cons _ ?_)
    exact ((List.Perm.swap _ _ _).cons _).trans (List.Perm.swap _ _ _)
  refine ge_append (α := Hdr) (v := X.val) (l := X.hs) (u := ⟨A, l.length, cc⟩) (z := .slice none 0 0) h hx hy ht hi (by rfl) h2 hb0 (by rw [p1]; exact hlen) fun v' w1 h3 => ?_
  obtain ⟨Y, rfl, h4⟩ := St.nestAdd p1 h3
  exact k Y w1 h4
end
end Go.Proofs.Ytchcdadpahakfaa.GV
