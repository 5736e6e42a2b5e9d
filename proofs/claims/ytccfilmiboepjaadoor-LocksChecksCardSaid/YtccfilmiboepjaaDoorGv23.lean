/- The walker's core, 23rd part: rows of rows that are owned. Written for this work. -/
import Derived.Test.YtccfilmiboepjaaDoorGv22
namespace Go.Proofs.YtccfilmiboepjaaDoor.GV
open Go Go.RowKit
set_option linter.unusedVariables false
set_option linter.unusedSimpArgs false
/-- a row of rows: its head, and the heads of its rows -/
structure Rows where
  A : Option Addr
  n : Nat
  c : Nat
  hs : List Hdr
def Rows.val (x : Rows) : Value := .slice x.A x.n x.c
def Rows.none : Rows := ⟨Option.none, 0, 0, []⟩
def Rows.put (x : Rows) (t : Nat) (A : Option Addr) (n c : Nat) : Rows := ⟨x.A, x.n, x.c, x.hs.set t ⟨A, n, c⟩⟩
/-- a plain fact beside what is owned -/
def Own.only (P : Prop) : Own := ⟨[], fun _ => P, fun _ _ _ h => h⟩
theorem St.only {w0 w : World} {L : List Own} {P : Prop} (h : St w0 w L) (p : P) : St w0 w (Own.only P :: L) := by
  refine ⟨h.below, fun r hr => ?_, fun r hr b hb => ?_, List.Pairwise.cons (fun s _ b hb => ?_) h.apart⟩
  · rcases List.mem_cons.1 hr with rfl | hr
    · exact p
    · exact h.holds r hr
  · rcases List.mem_cons.1 hr with rfl | hr
    · simp [Own.only] at hb
    · exact h.base r hr b hb
  · simp [Own.only] at hb
section
variable {P : Program} {n : Nat} {ops : Array Oper} {Q : Exit → Act → World → Prop}
end
theorem ownb {α : Type} [Flat α] {A : Option Addr} {n m c e b : Nat} {l r : List α} (h : b ∈ (Own.of (.slice A n c) e l).foot) : b ∈ (Own.of (.slice A m c) e r).foot := by
  cases A <;> exact h
/-- the head of a row, of fewer -/
theorem St.shrink {α : Type} [Flat α] {w0 w : World} {L : List Own} {A : Option Addr} {c e : Nat} {l : List α} (h : St w0 w (Own.of (.slice A l.length c) e l :: L)) (k : Nat) : St w0 w (Own.of (.slice A (l.take k).length c) e (l.take k) :: L) := by
  have h0 := h.holds _ (List.mem_cons_self ..)
  refine ⟨h.below, fun r hr => ?_, fun r hr b hb => ?_, List.Pairwise.cons (fun s hs b hb => ?_) (List.pairwise_cons.1 h.apart).2⟩
  · rcases List.mem_cons.1 hr with rfl | hr
    · obtain ⟨⟨q1, q2⟩, h2 | ⟨g, cap, cur, hv, hg, hn, hc, hsz, ht⟩⟩ := h0
      · have : l = [] := List.eq_nil_of_length_eq_zero h2.2
        subst this
        exact ⟨⟨by simp [cellsOf], by simp⟩, .inl ⟨by simpa using h2.1, by simp⟩⟩
      · injection hv with hA hl hcc
        subst hA; subst hcc
        refine ⟨⟨by rw [cellsOf_length], by simp only [List.length_take]; omega⟩, .inr ⟨g, c, cur, rfl, hg, by simp only [List.length_take]; omega, hc, hsz, ?_⟩⟩
        apply List.ext_getElem?
        intro q
        have hp := Flat.pos (α := α)
        have hle : (l.take k).length * Flat.sz α ≤ l.length * Flat.sz α := Nat.mul_le_mul_right _ (by simp only [List.length_take]; omega)
        by_cases hq : q < (l.take k).length * Flat.sz α
        · have e1 : (cur.toList.take ((l.take k).length * Flat.sz α))[q]? = (cur.toList.take (l.length * Flat.sz α))[q]? := by
            rw [List.getElem?_take, List.getElem?_take, if_pos hq, if_pos (by omega)]
          rw [e1, ht]
          have hq0 : q = (q / Flat.sz α) * Flat.sz α + q % Flat.sz α := by rw [Nat.mul_comm]; exact (Nat.div_add_mod q _).symm
          have hmod := Nat.mod_lt q hp
          have hd : q / Flat.sz α < (l.take k).length := (Nat.div_lt_iff_lt_mul hp).2 hq
          have hk' : q / Flat.sz α < k ∧ q / Flat.sz α < l.length := by simp only [List.length_take] at hd; omega
          have hx : l[q / Flat.sz α]? = some (l[q / Flat.sz α]'hk'.2) := List.getElem?_eq_getElem _
          have hx2 : (l.take k)[q / Flat.sz α]? = some (l[q / Flat.sz α]'hk'.2) := by rw [List.getElem?_take, if_pos hk'.1, hx]
          have g1 := cellsOf_get l _ _ _ hx hmod
          have g2 := cellsOf_get (l.take k) _ _ _ hx2 hmod
          rw [← hq0] at g1 g2
          rw [g1, g2]
        · rw [List.getElem?_take, if_neg hq, List.getElem?_eq_none (by rw [cellsOf_length]; omega)]
    · exact h.holds r (List.mem_cons_of_mem _ hr)
  · rcases List.mem_cons.1 hr with rfl | hr
    · exact h.base (Own.of (.slice A l.length c) e l) (List.mem_cons_self ..) b (ownb hb)
    · exact h.base r (List.mem_cons_of_mem _ hr) b hb
  · exact (List.pairwise_cons.1 h.apart).1 s hs b (ownb hb)
end Go.Proofs.YtccfilmiboepjaaDoor.GV
