/- The walker's core, thirteenth part: parts of slices that are read. Written for this work. -/
import Derived.Test.YtchcdadpahakfaaGv12
namespace Go.Proofs.Ytchcdadpahakfaa.GV
open Go Go.RowKit
set_option linter.unusedVariables false
set_option linter.unusedSimpArgs false
def subA (A : Option Addr) (c lo sz : Nat) : Option Addr := if c = lo then A else A.map (·.add (lo * sz))
theorem RdL.empty {α : Type} [Flat α] (w : World) (A : Option Addr) : RdL w A ([] : List α) := ⟨by simp, fun h => absurd h (by simp), fun b o e i j hi => absurd hi (by simp)⟩
theorem RdL.part {α : Type} [Flat α] {w : World} {A : Option Addr} {l : List α} {c : Nat} (h : RdL w A l) (hL : l.length ≤ c) (lo hi : Nat) : RdL w (subA A c lo (Flat.sz α)) ((l.take hi).drop lo) := by
  by_cases hc : c = lo
  · have : (l.take hi).drop lo = [] := by
      apply List.drop_eq_nil_of_le
      rw [List.length_take]; omega
    rw [this]
    exact RdL.empty w _
  · unfold subA
    rw [if_neg hc]
    refine ⟨?_, fun hn => ?_, fun b o e i j hi' hj => ?_⟩
    · have := h.small
      simp only [List.length_drop, List.length_take]; omega
    · simp only [List.length_drop, List.length_take] at hn
      obtain ⟨b, o, rfl⟩ := h.at_ (by omega)
      refine ⟨b, o + lo * Flat.sz α, ?_⟩
      simp only [Option.map_some, Option.some.injEq]
      unfold Addr.add; split <;> simp_all
    · simp only [List.length_drop, List.length_take] at hi'
      obtain ⟨b1, o1, rfl⟩ := h.at_ (by omega)
      have he : (⟨b1, o1, none⟩ : Addr).add (lo * Flat.sz α) = ⟨b1, o1 + lo * Flat.sz α, none⟩ := by unfold Addr.add; split <;> simp_all
      simp only [Option.map_some, Option.some.injEq, he] at e
      injection e with e1 e2
      subst e1; subst e2
      have := Rd.cell h b1 o1 rfl (lo + i) j (by omega) hj
      rw [show o1 + lo * Flat.sz α + i * Flat.sz α + j = o1 + (lo + i) * Flat.sz α + j from by rw [Nat.add_mul]; omega, this]
      simp only [flatF, List.getElem?_drop, List.getElem?_take]
      rw [if_pos (by omega)]
theorem St.capAt {α : Type} [Flat α] {w0 w : World} {L : List Own} (h : St w0 w L) (m : Nat) {A : Option Addr} {n c t : Nat} {l : List α} (hm : L[m]? = some (Own.of (.slice A n c) t l)) : l.length ≤ c := by
  have hh := h.holds _ (List.mem_of_getElem? hm)
  rcases hh.2 with ⟨hv, h0⟩ | ⟨g, cap, cur, hv, hg, hn, hc⟩
  · injection hv with _ _ h3; omega
  · injection hv with _ _ h3; omega
section
variable {P : Program} {n : Nat} {ops : Array Oper} {Q : Exit → Act → World → Prop} [Dfs]
theorem ge_part {i d t el sz m c : Nat} {lo hi : Nat} {x : Operand} {xl xh : Option Operand} {ty : TypeId} {A : Option Addr} {e : Env} {rest : List (Nat × Nat)} {w : World} (h : opAt n ops e i = some (d, .slice t x xl xh none, ty))
    (hx : e.ev x = some (.slice A m c)) (hl : (match xl with | none => lo = 0 | some y => ∃ k j, e.ev y = some (.int k j) ∧ j = (lo : Int))) (hh : (match xh with | none => hi = m | some y => ∃ k j, e.ev y = some (.int k j) ∧ j = (hi : Int)))
    (ht : P.underlying t = some (.slice el)) (hs : (P.info? el).map (·.size) = some sz) (h1 : lo ≤ hi) (h2 : hi ≤ c)
    (k : GE P n ops Q rest ((d, .slice (subA A c lo sz) (hi - lo) (c - lo)) :: e) w) : GE P n ops Q ((i, 0) :: rest) e w := by
  refine ge_val h (fun o w' hop hty hxt => ?_) k
  obtain ⟨inf, hi', hsz⟩ := Option.map_eq_some_iff.1 hs
  have hu : (underlying t).run P w' = .ok (.slice el) w' := by simp [underlying, ht]
  have hz : (sizeOf el).run P w' = .ok sz w' := by simp [sizeOf, typeInfo, hi', hsz]
  have hb : (Instr.sliceBounds true m c (xl.map e.evD) (xh.map e.evD) none).run P w' = .ok (lo, hi, c) w' := by
    have e1 : (hi : Int) ≤ (c : Int) := by omega
    have e2 : (lo : Int) ≤ (hi : Int) := by omega
    cases xl with
    | none =>
      simp only at hl
      subst hl
      cases xh with
      | none => simp only at hh; subst hh; simp [Instr.sliceBounds, Instr.sliceBound, asIntOf]
      | some y => obtain ⟨k', j, hy, rfl⟩ := hh; simp [Instr.sliceBounds, Instr.sliceBound, asIntOf, Env.evD, hy, h2]
    | some z =>
      obtain ⟨k1, j1, hz1, rfl⟩ := hl
      cases xh with
      | none => simp only at hh; subst hh; simp [Instr.sliceBounds, Instr.sliceBound, asIntOf, Env.evD, hz1, h1]
      | some y => obtain ⟨k', j, hy, rfl⟩ := hh; simp [Instr.sliceBounds, Instr.sliceBound, asIntOf, Env.evD, hy, hz1, h1, h2]
  have hA : (Instr.sliceAt t (.slice A m c) (xl.map e.evD) (xh.map e.evD) none).run P w' = .ok (.slice (subA A c lo sz) (hi - lo) (c - lo)) w' := by
    simp [Instr.sliceAt, Instr.slice, hu, hz, hb, subA]
  have hev : e.evD x = .slice A m c := by simp [Env.evD, hx]
  simp only [execOp, hop, hev, Option.map_none, Sem.run_bind, hA, Result.andThen_ok, Sem.run_pure]
end
end Go.Proofs.Ytchcdadpahakfaa.GV
