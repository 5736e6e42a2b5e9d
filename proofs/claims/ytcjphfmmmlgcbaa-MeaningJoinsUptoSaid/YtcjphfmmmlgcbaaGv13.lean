/- The walker's core, thirteenth part: parts of slices that are read. Written for this work. -/
import Derived.Test.YtcjphfmmmlgcbaaGv12
namespace Go.Proofs.Ytcjphfmmmlgcbaa.GV
open Go Go.RowKit
set_option linter.unusedVariables false
set_option linter.unusedSimpArgs false
def subA (A : Option Addr) (c lo sz : Nat) : Option Addr := if c = lo then A else A.map (·.add (lo * sz))
theorem RdL.empty {α : Type} [Flat α] (w : World) (A : Option Addr) : RdL w A ([] : List α) := ⟨by simp, fun h => absurd h (by simp), fun b o e i j hi => absurd hi (by simp)⟩
theorem RdL.part {α : Type} [Flat α] {w : World} {A : Option Addr} {l : List α} {c : Nat} (h : RdL w A l) (hL : l.length ≤ c) (lo hi : Nat) : RdL w (subA A c lo (Flat.sz α)) ((l.take hi).drop lo) := by
  by_cases hc : c = lo
  · have : (l.take hi).drop lo = [] := by
      apply List.drop_eq_nil_of_le
      rw [List.length_take]; omega
    rw [this]
    exact RdL.empty w _
  · unfold subA
    rw [if_neg hc]
    refine ⟨?_, fun hn => ?_, fun b o e i j hi' hj => ?_⟩
    · have := h.small
      simp only [List.length_drop, List.length_take]; omega
    · simp only [List.length_drop, List.length_take] at hn
      obtain ⟨b, o, rfl⟩ := h.at_ (by omega)
      refine ⟨b, o + lo * Flat.sz α, ?_⟩
      simp only [Option.map_some, Option.some.injEq]
      unfold Addr.add; split <;> simp_all
    · simp only [List.length_drop, List.length_take] at hi'
      obtain ⟨b1, o1, rfl⟩ := h.at_ (by omega)
      have he : (⟨b1, o1, none⟩ : Addr).add (lo * Flat.sz α) = ⟨b1, o1 + lo * Flat.sz α, none⟩ := by unfold Addr.add; split <;> simp_all
      simp only [Option.map_some, Option.some.injEq, he] at e
      injection e with e1 e2
      subst e1; subst e2
      have := Rd.cell h b1 o1 rfl (lo + i) j (by omega) hj
      rw [show o1 + lo * Flat.sz α + i * Flat.sz α + j = o1 + (lo + i) * Flat.sz α + j from by rw [Nat.add_mul]; omega, this]
      simp only [flatF, List.getElem?_drop, List.getElem?_take]
      rw [if_pos (by omega)]
theorem St.capAt {α : Type} [Flat α] {w0 w : World} {L : List Own} (h : St w0 w L) (m : Nat) {A : Option Addr} {n c t : Nat} {l : List α} (hm : L[m]? = some (Own.of (.slice A n c) t l)) : l.length ≤ c := by
  have hh := h.holds _ (List.mem_of_getElem? hm)
  rcases hh.2 with ⟨hv, h0⟩ | ⟨g, cap, cur, hv, hg, hn, hc⟩
  · injection hv with _ _ h3; omega
  · injection hv with _ _ h3; omega
section
variable {P : Program} {n : Nat} {ops : Array Oper} {Q : Exit → Act → World → Prop} [Dfs]
end
end Go.Proofs.Ytcjphfmmmlgcbaa.GV
