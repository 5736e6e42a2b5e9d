/- The walker's core, 22nd part: rows of rows as arguments of a row. Written for this work. -/
import Derived.Test.YtccfilmiboepjaaDoorGv21
namespace Go.Proofs.YtccfilmiboepjaaDoor.GV
open Go Go.RowKit Go.ChangeShapes Go.WideShapes
set_option linter.unusedVariables false
set_option linter.unusedSimpArgs false
section
variable {H : Type} {enc : TypeId × Value → H} {P : Program} {w : World} {base : Nat} {spare : Nat → Bool} {held : Bool}
theorem weightsAll_mem {e : TypeId} {d : DataW H} : ∀ {l : List (DataW H)}, d ∈ l → ∀ n ∈ d.weights P e, n ∈ DataW.weightsAll P e l
  | x :: r, h, n, hn => by
    simp only [DataW.weightsAll, List.mem_append]
    rcases List.mem_cons.1 h with rfl | h
    · exact .inl hn
    · exact .inr (weightsAll_mem h n hn)
/-- a slice of plain data, opened, cell by cell -/
theorem gate_cells {α : Type} [Flat α] [Ok α] {t e : TypeId} {cs : List Value} {fuel : Nat} {x : DataW H × List MemPlace} (ht : P.underlying t = some (.slice e)) (ks : List CK) (hk : flatK P 8 e = some ks) (hof : ∀ cs, fitsAll2 ks cs → ∃ y : α, cs = Flat.cells y ∧ Ok.ok y) (hc : P.cellsOf e = Flat.sz α) (hby : Nat.blt 0 (P.bytesOf e) = true)
    (h : DataW.trod enc P w base spare held fuel t cs = some x) (hwt : ∀ n ∈ x.1.weights P t, n ≤ reachBytes) : ∃ (l : List α) (A : Option Addr) (c : Nat), cs = [.slice A l.length c] ∧ RdL w A l ∧ l.length ≤ c ∧ ∀ y ∈ l, Ok.ok y := by
  rcases Go.Deep.open_slice ht h with ⟨rfl, _⟩ | ⟨a, n0, c0, m, n, D, Pl, rfl, _, hlc, _, hm, hx, hel⟩
  · exact ⟨[], none, 0, rfl, RdL.nil w, Nat.zero_le _, by simp⟩
  · have hv : ∃ (a' : Option Addr) (n' c' : Nat), (Value.slice (some a) n0 c0) = .slice a' n' c' := ⟨some a, n0, c0, rfl⟩
    have hT : DataW.Trod enc P w base spare held t (.slice (some a) n0 c0) x.1 x.2 := ⟨fuel, h⟩
    obtain ⟨l, A, c, hv, hR, hl, hok⟩ := gate_row2 (α := α) ht ks hk hof hc hby hT hwt hv
    exact ⟨l, A, c, by rw [hv], hR, hl, hok⟩
end
end Go.Proofs.YtccfilmiboepjaaDoor.GV
