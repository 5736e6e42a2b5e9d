/- The walker's core, 32nd part: data with rows within, read and owned. Written for this work. -/
import Derived.Test.YtchcdadpahakfaaGv31
namespace Go.Proofs.Ytchcdadpahakfaa.GV
open Go Go.RowKit
set_option linter.unusedVariables false
set_option linter.unusedSimpArgs false
/-- what reads so in w reads so in w' -/
def Sub (w w' : World) : Prop := ∀ (a : Addr) (v : Value), w.cell? a = some v → w'.cell? a = some v
theorem Sub.refl (w : World) : Sub w w := fun _ _ h => h
theorem Sub.trans {a b c : World} (h : Sub a b) (k : Sub b c) : Sub a c := fun x v hx => k x v (h x v hx)
theorem Rd.sub {w w' : World} {A : Option Addr} {n sz : Nat} {f : Nat → Nat → Value} (h : Rd w A n sz f) (k : Sub w w') : Rd w' A n sz f :=
  ⟨h.small, h.at_, fun b o e i j hi hj => k _ _ (h.cell b o e i j hi hj)⟩
theorem RdL.sub {α : Type} [Flat α] {w w' : World} {A : Option Addr} {l : List α} (h : RdL w A l) (k : Sub w w') : RdL w' A l := Rd.sub h k
/-- data with rows within: a head of plain cells, and what it stands for in a world -/
class Rep (α : Type) where
  H : Type
  flat : Flat H
  rel : World → H → α → Prop
  ext : ∀ {w w' : World} {h : H} {x : α}, Sub w w' → rel w h x → rel w' h x
instance instFlatH {α : Type} [r : Rep α] : Flat (Rep.H α) := r.flat
/-- a slice of such data -/
structure RdN {α : Type} [Rep α] (w : World) (A : Option Addr) (l : List α) : Prop where
  ex : ∃ hs : List (Rep.H α), hs.length = l.length ∧ RdL w A hs ∧ ∀ (i : Nat) (h : Rep.H α) (x : α), hs[i]? = some h → l[i]? = some x → Rep.rel w h x
theorem RdN.sub {α : Type} [Rep α] {w w' : World} {A : Option Addr} {l : List α} (h : RdN w A l) (k : Sub w w') : RdN w' A l := by
  obtain ⟨hs, h1, h2, h3⟩ := h.ex
  exact ⟨hs, h1, h2.sub k, fun i y x hy hx => Rep.ext k (h3 i y x hy hx)⟩
theorem RdN.nil {α : Type} [Rep α] (w : World) : RdN w none ([] : List α) := ⟨[], rfl, RdL.nil w, fun i h x hh => by simp at hh⟩
theorem RdN.small {α : Type} [Rep α] {w : World} {A : Option Addr} {l : List α} (h : RdN w A l) : l.length ≤ 140737488355328 := by
  obtain ⟨hs, h1, h2, _⟩ := h.ex
  rw [← h1]; exact h2.small
theorem RdN.eqSome {α : Type} [Rep α] {w : World} {A : Option Addr} {l : List α} (h : RdN w A l) (hn : 0 < l.length) : A = some ⟨blkOf A, offOf A, none⟩ := by
  obtain ⟨hs, h1, h2, _⟩ := h.ex
  exact Rd.eqSome h2 (by rw [h1]; exact hn)
theorem RdN.get {α : Type} [Rep α] {w : World} {A : Option Addr} {l : List α} (h : RdN w A l) {k : Nat} {x : α} (hx : l[k]? = some x) :
    ∃ y : Rep.H α, Rep.rel w y x ∧ ∀ (j : Nat) (v : Value), (Flat.cells y)[j]? = some v → w.cell? ⟨blkOf A, offOf A + k * Flat.sz (Rep.H α) + j, none⟩ = some v := by
  obtain ⟨hs, h1, h2, h3⟩ := h.ex
  have hk := lt_of_get hx
  have hy : hs[k]? = some (hs[k]'(by omega)) := List.getElem?_eq_getElem _
  exact ⟨_, h3 k _ x hy hx, fun j v hv => RdL.cell h2 hy hv⟩
/-- a world of which some blocks alone are left -/
def _root_.Go.World.only (w : World) (ft : List Nat) : World := { w with heap := (Array.range w.heap.size).map fun b => if b ∈ ft then (w.heap[b]?).getD (.cells #[] 0 (0, 0)) else .cells #[] 0 (0, 0) }
theorem only_heap {w : World} {ft : List Nat} {b : Nat} (hb : b ∈ ft) : (w.only ft).heap[b]? = w.heap[b]? := by
  simp only [World.only, Array.getElem?_map]
  by_cases h : b < w.heap.size
  · rw [Array.getElem?_eq_getElem (by simpa using h)]
    simp [hb, h]
  · rw [Array.getElem?_eq_none (by simp; omega), Array.getElem?_eq_none (by omega)]; rfl
theorem only_none {w : World} {ft : List Nat} {a : Addr} {v : Value} (h : (w.only ft).cell? a = some v) : a.block ∈ ft := by
  apply Classical.byContradiction
  intro hn
  unfold World.cell? at h
  simp only [World.only, Array.getElem?_map] at h
  by_cases hb : a.block < w.heap.size
  · rw [Array.getElem?_eq_getElem (by simpa using hb)] at h
    simp [hn] at h
  · rw [Array.getElem?_eq_none (by simp; omega)] at h
    simp at h
/-- blocks that stay as they are -/
def Own.frz (ft : List Nat) (wf : World) : Own :=
  ⟨ft, fun h => (∀ b ∈ ft, h b = wf.heap[b]?) ∧ ∀ a v, wf.cell? a = some v → a.block ∈ ft, fun h h' k hh => ⟨fun b hb => (k b hb).trans (hh.1 b hb), hh.2⟩⟩
/-- what is owned stays as it is -/
theorem St.freeze {w0 w : World} {r : Own} {L : List Own} (h : St w0 w (r :: L)) : St w0 w (Own.frz r.foot (w.only r.foot) :: L) := by
  refine ⟨h.below, fun s hs => ?_, fun s hs => ?_, ?_⟩
  · rcases List.mem_cons.1 hs with rfl | hs
    · exact ⟨fun b hb => (only_heap hb).symm, fun a v hv => only_none hv⟩
    · exact h.holds s (List.mem_cons_of_mem _ hs)
  · rcases List.mem_cons.1 hs with rfl | hs
    · exact h.base r (by simp)
    · exact h.base s (List.mem_cons_of_mem _ hs)
  · exact List.Pairwise.cons (List.pairwise_cons.1 h.apart).1 (List.pairwise_cons.1 h.apart).2
/-- a row of such data that is owned -/
structure Tree (α : Type) [Rep α] where
  A : Option Addr
  n : Nat
  c : Nat
  hs : List (Rep.H α)
  ft : List Nat
  wf : World
def Tree.val {α : Type} [Rep α] (x : Tree α) : Value := .slice x.A x.n x.c
end Go.Proofs.Ytchcdadpahakfaa.GV
