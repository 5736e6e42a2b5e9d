/- The walker's core, 30th part: how long an argument may be. Written for this work. -/
import Derived.Test.YtchcdadpahakfaaGv22
namespace Go.Proofs.Ytchcdadpahakfaa.GV
open Go Go.RowKit Go.ChangeShapes Go.WideShapes
set_option linter.unusedVariables false
set_option linter.unusedSimpArgs false
theorem gate_len {H : Type} {enc : TypeId × Value → H} {P : Program} {w : World} {base : Nat} {spare : Nat → Bool} {held : Bool} {t e : TypeId} {A : Option Addr} {n0 c0 k : Nat} {d : DataW H} {ps : List MemPlace} (ht : P.underlying t = some (.slice e)) (hk : P.bytesOf e = k)
    (h : DataW.Trod enc P w base spare held t (.slice A n0 c0) d ps) (hwt : ∀ n ∈ d.weights P t, n ≤ reachBytes) : n0 * k ≤ 140737488351232 := by
  subst hk
  obtain ⟨fuel, h⟩ := h
  rcases Go.Deep.open_slice ht h with ⟨hcs, _⟩ | ⟨a, len, cap, m, n, D, Pl, hcs, _, hlc, _, hm, hx, hel⟩
  · have : (Value.slice A n0 c0).cells.toList = [.slice A n0 c0] := rfl
    rw [this] at hcs
    injection hcs with hcs _
    injection hcs with h1 h2 h3
    subst h2
    simp
  · have : (Value.slice A n0 c0).cells.toList = [.slice A n0 c0] := rfl
    rw [this] at hcs
    injection hcs with hcs _
    injection hcs with h1 h2 h3
    subst h1; subst h2; subst h3
    have hlm : n0 ≤ m := by rw [hm]; split <;> omega
    have hd : d = .slice ((List.range n0).map D) ((List.range (m - n0)).map fun j => D (n0 + j)) := (Prod.mk.inj hx).1
    have h1 := hwt ((n0 + (m - n0)) * P.bytesOf e) (by rw [hd]; simp [DataW.weights, ht])
    have h3 : n0 * P.bytesOf e ≤ (n0 + (m - n0)) * P.bytesOf e := Nat.mul_le_mul_right _ (by omega)
    have h2 : reachBytes = 140737488351232 := rfl
    omega
end Go.Proofs.Ytchcdadpahakfaa.GV
