/- The walker's core, 37th part: data with rows within, in zones that stay as they are. Written for this work. -/
import Derived.Test.YtcjphfmmmlgcbaaGv36
namespace Go.Proofs.Ytcjphfmmmlgcbaa.GV
open Go Go.RowKit
set_option linter.unusedVariables false
set_option linter.unusedSimpArgs false
/-- worlds in which what stays as it is can be read -/
abbrev Zone := World → Prop
/-- the second knows at least what the first one knows -/
def ZLe (Z Z' : Zone) : Prop := ∀ w, Z' w → Z w
def Zand (Z : Zone) (wf : World) : Zone := fun w => Z w ∧ Sub wf w
theorem ZLe.refl (Z : Zone) : ZLe Z Z := fun _ h => h
theorem ZLe.trans {X Y Z : Zone} (h : ZLe X Y) (k : ZLe Y Z) : ZLe X Z := fun w hw => h w (k w hw)
theorem ZLe.in (Z : Zone) (wf : World) : ZLe Z (Zand Z wf) := fun _ h => h.1
theorem ZLe.up {Z : Zone} {v w : World} (h : Sub v w) : ZLe (Zand Z v) (Zand Z w) := fun _ k => ⟨k.1, h.trans k.2⟩
theorem ZLe.both {Z : Zone} {u v w : World} (h : Sub u w) (k : Sub v w) : ZLe (Zand (Zand Z u) v) (Zand Z w) := fun _ q => ⟨⟨q.1, h.trans q.2⟩, k.trans q.2⟩
/-- a row of plain data in a zone -/
def RdF {α : Type} [Flat α] (Z : Zone) (A : Option Addr) (l : List α) : Prop := ∀ w, Z w → RdL w A l
theorem RdF.up {α : Type} [Flat α] {Z Z' : Zone} {A : Option Addr} {l : List α} (h : RdF Z A l) (k : ZLe Z Z') : RdF Z' A l := fun w hw => h w (k w hw)
theorem RdF.nil {α : Type} [Flat α] (Z : Zone) : RdF Z none ([] : List α) := fun w _ => RdL.nil w
/-- data with rows within: a head of plain cells, and what it stands for in a zone -/
class DRep (α : Type) where
  H : Type
  flat : Flat H
  rel : Zone → H → α → Prop
  up : ∀ {Z Z' : Zone} {h : H} {x : α}, ZLe Z Z' → rel Z h x → rel Z' h x
instance instFlatDH {α : Type} [r : DRep α] : Flat (DRep.H α) := r.flat
/-- heads and what they stand for -/
structure DRows {α : Type} [DRep α] (Z : Zone) (hs : List (DRep.H α)) (l : List α) : Prop where
  len : hs.length = l.length
  each : ∀ (i : Nat) (h : DRep.H α) (x : α), hs[i]? = some h → l[i]? = some x → DRep.rel Z h x
theorem DRows.up {α : Type} [DRep α] {Z Z' : Zone} {hs : List (DRep.H α)} {l : List α} (h : DRows Z hs l) (k : ZLe Z Z') : DRows Z' hs l := ⟨h.len, fun i y x hy hx => DRep.up k (h.each i y x hy hx)⟩
theorem DRows.nil {α : Type} [DRep α] (Z : Zone) : DRows Z ([] : List (DRep.H α)) ([] : List α) := ⟨rfl, fun i h x hh => by simp at hh⟩
theorem DRows.add {α : Type} [DRep α] {Z : Zone} {hs : List (DRep.H α)} {l : List α} {y : DRep.H α} {x : α} (h : DRows Z hs l) (r : DRep.rel Z y x) : DRows Z (hs ++ [y]) (l ++ [x]) := by
  refine ⟨by simp [h.len], fun i k q hk hq => ?_⟩
  by_cases hi : i < hs.length
  · rw [List.getElem?_append_left hi] at hk
    rw [List.getElem?_append_left (by rw [← h.len]; exact hi)] at hq
    exact h.each i k q hk hq
  · rw [List.getElem?_append_right (by omega)] at hk
    rw [List.getElem?_append_right (by rw [← h.len]; omega), ← h.len] at hq
    have h0 : i - hs.length = 0 := by
      apply Classical.byContradiction
      intro hne
      rw [List.getElem?_eq_none (by simp; omega)] at hk
      cases hk
    rw [h0] at hk hq
    simp only [List.getElem?_cons_zero, Option.some.injEq] at hk hq
    subst hk; subst hq
    exact r
theorem DRows.app {α : Type} [DRep α] {Z : Zone} {hs gs : List (DRep.H α)} {l m : List α} (h : DRows Z hs l) (g : DRows Z gs m) : DRows Z (hs ++ gs) (l ++ m) := by
  refine ⟨by simp [h.len, g.len], fun i k q hk hq => ?_⟩
  by_cases hi : i < hs.length
  · rw [List.getElem?_append_left hi] at hk
    rw [List.getElem?_append_left (by rw [← h.len]; exact hi)] at hq
    exact h.each i k q hk hq
  · rw [List.getElem?_append_right (by omega)] at hk
    rw [List.getElem?_append_right (by rw [← h.len]; omega), ← h.len] at hq
    exact g.each _ k q hk hq
theorem DRows.one {α : Type} [DRep α] {Z : Zone} {y : DRep.H α} {x : α} (r : DRep.rel Z y x) : DRows Z [y] [x] := DRows.add (DRows.nil Z) r
/-- a slice of such data -/
structure RdZ {α : Type} [DRep α] (Z : Zone) (A : Option Addr) (l : List α) : Prop where
  ex : ∃ hs : List (DRep.H α), DRows Z hs l ∧ RdF Z A hs
theorem RdZ.up {α : Type} [DRep α] {Z Z' : Zone} {A : Option Addr} {l : List α} (h : RdZ Z A l) (k : ZLe Z Z') : RdZ Z' A l := by
  obtain ⟨hs, h1, h2⟩ := h.ex
  exact ⟨hs, h1.up k, h2.up k⟩
theorem RdZ.nil {α : Type} [DRep α] (Z : Zone) : RdZ Z none ([] : List α) := ⟨[], DRows.nil Z, RdF.nil Z⟩
theorem RdZ.small {α : Type} [DRep α] {Z : Zone} {w : World} {A : Option Addr} {l : List α} (h : RdZ Z A l) (hw : Z w) : l.length ≤ 140737488355328 := by
  obtain ⟨hs, h1, h2⟩ := h.ex
  rw [← h1.len]; exact (h2 w hw).small
theorem RdZ.eqSome {α : Type} [DRep α] {Z : Zone} {w : World} {A : Option Addr} {l : List α} (h : RdZ Z A l) (hw : Z w) (hn : 0 < l.length) : A = some ⟨blkOf A, offOf A, none⟩ := by
  obtain ⟨hs, h1, h2⟩ := h.ex
  exact Rd.eqSome (h2 w hw) (by rw [h1.len]; exact hn)
/-- the cells of an element -/
def CellsAt (Z : Zone) (A : Option Addr) (o : Nat) (cs : List Value) : Prop := ∀ w, Z w → ∀ (j : Nat) (v : Value), cs[j]? = some v → w.cell? ⟨blkOf A, offOf A + o + j, none⟩ = some v
theorem RdZ.get {α : Type} [DRep α] {Z : Zone} {A : Option Addr} {l : List α} (h : RdZ Z A l) {k : Nat} {x : α} (hx : l[k]? = some x) : ∃ y : DRep.H α, DRep.rel Z y x ∧ CellsAt Z A (k * Flat.sz (DRep.H α)) (Flat.cells y) := by
  obtain ⟨hs, h1, h2⟩ := h.ex
  have hk := lt_of_get hx
  have hl := h1.len
  have hy : hs[k]? = some (hs[k]'(by omega)) := List.getElem?_eq_getElem _
  exact ⟨_, h1.each k _ x hy hx, fun w hw j v hv => RdL.cell (h2 w hw) hy hv⟩
/-- what is owned goes into what stays as it is -/
theorem St.dfrz {α : Type} [DRep α] {w0 w : World} {L : List Own} {A : Option Addr} {n c T : Nat} {hs : List (DRep.H α)} {l : List α} {Z : Zone} {f : List Nat} {wf : World} (h : St w0 w (Own.of (.slice A n c) T hs :: Own.frz f wf :: L)) (hd : DRows (Zand Z wf) hs l) :
    ∃ (ft : List Nat) (wh : World), Sub wf wh ∧ n = l.length ∧ RdZ (Zand Z wh) A l ∧ l.length ≤ c ∧ St w0 w (Own.frz ft wh :: L) := by
  have hn := h.lenAt 0 rfl
  have hc := h.capAt 0 rfl
  subst hn
  obtain ⟨f2, w2, hR, h2⟩ := h.frzRow
  obtain ⟨ft, wh, s1, s2, h3⟩ := h2.frzMerge
  exact ⟨ft, wh, s2, hd.len, ⟨hs, hd.up (ZLe.up s2), fun w' hw => hR.sub (s1.trans hw.2)⟩, by rw [← hd.len]; exact hc, h3⟩
theorem St.dopen {α : Type} [DRep α] {w0 w : World} {L : List Own} {v : Value} {T : Nat} {hs : List (DRep.H α)} {l : List α} {Z : Zone} (h : St w0 w L) (m : Nat) (hm : L[m]? = some (Own.of v T hs)) (hd : DRows Z hs l) : ∃ (A : Option Addr) (c : Nat), v = .slice A l.length c := by
  obtain ⟨A, c, e⟩ := h.open m hm
  exact ⟨A, c, by rw [e, hd.len]⟩
theorem St.frz0 {w0 w : World} {L : List Own} (h : St w0 w L) : ∃ (ft : List Nat) (wf : World), St w0 w (Own.frz ft wf :: L) := by
  obtain ⟨wf, h1⟩ := h.frzNil
  exact ⟨[], wf, h1⟩
end Go.Proofs.Ytcjphfmmmlgcbaa.GV
