/- The walker's core, 23rd part: rows of rows that are owned. Written for this work. -/
import Derived.Test.YtchcdadpahakfaaGv22
namespace Go.Proofs.Ytchcdadpahakfaa.GV
open Go Go.RowKit
set_option linter.unusedVariables false
set_option linter.unusedSimpArgs false
/-- a row of rows: its head, and the heads of its rows -/
structure Rows where
  A : Option Addr
  n : Nat
  c : Nat
  hs : List Hdr
def Rows.val (x : Rows) : Value := .slice x.A x.n x.c
def Rows.none : Rows := ⟨Option.none, 0, 0, []⟩
def Rows.put (x : Rows) (t : Nat) (A : Option Addr) (n c : Nat) : Rows := ⟨x.A, x.n, x.c, x.hs.set t ⟨A, n, c⟩⟩
/-- a plain fact beside what is owned -/
def Own.only (P : Prop) : Own := ⟨[], fun _ => P, fun _ _ _ h => h⟩
def Own.nest {α : Type} [Flat α] (x : Rows) (T e : Nat) (ls : List (List α)) : Own := Own.all (Own.only (x.hs.length = ls.length ∧ x.n = ls.length) :: Own.of x.val T x.hs :: famL e x.hs ls)
theorem St.only {w0 w : World} {L : List Own} {P : Prop} (h : St w0 w L) (p : P) : St w0 w (Own.only P :: L) := by
  refine ⟨h.below, fun r hr => ?_, fun r hr b hb => ?_, List.Pairwise.cons (fun s _ b hb => ?_) h.apart⟩
  · rcases List.mem_cons.1 hr with rfl | hr
    · exact p
    · exact h.holds r hr
  · rcases List.mem_cons.1 hr with rfl | hr
    · simp [Own.only] at hb
    · exact h.base r hr b hb
  · simp [Own.only] at hb
theorem St.nestOpen {α : Type} [Flat α] {w0 w : World} {L : List Own} {x : Rows} {T e : Nat} {ls : List (List α)} (h : St w0 w (Own.nest x T e ls :: L)) : (x.hs.length = ls.length ∧ x.n = ls.length) ∧ St w0 w (Own.of x.val T x.hs :: Own.fam e x.hs ls :: L) := by
  have h1 := St.spread (R := Own.only (x.hs.length = ls.length ∧ x.n = ls.length) :: Own.of x.val T x.hs :: famL e x.hs ls) h
  have hp : x.hs.length = ls.length ∧ x.n = ls.length := h1.holds (Own.only (x.hs.length = ls.length ∧ x.n = ls.length)) (List.mem_cons_self ..)
  refine ⟨hp, ?_⟩
  have h2 : St w0 w (Own.of x.val T x.hs :: (famL e x.hs ls ++ L)) := h1.tail
  have h3 : St w0 w (famL e x.hs ls ++ Own.of x.val T x.hs :: L) := h2.perm List.perm_middle.symm
  exact h3.gather.perm (List.Perm.swap _ _ _)
theorem St.nestMk {α : Type} [Flat α] {w0 w : World} {L : List Own} {x : Rows} {T e : Nat} {ls : List (List α)} (hp : x.hs.length = ls.length) (h : St w0 w (Own.of x.val T x.hs :: Own.fam e x.hs ls :: L)) : St w0 w (Own.nest x T e ls :: L) := by
  have hn : x.n = x.hs.length := h.lenAt 0 (A := x.A) (n := x.n) (c := x.c) (t := T) (l := x.hs) rfl
  have h3 : St w0 w (Own.fam e x.hs ls :: Own.of x.val T x.hs :: L) := h.perm (List.Perm.swap _ _ _)
  have h2 : St w0 w (Own.of x.val T x.hs :: (famL e x.hs ls ++ L)) := h3.spread.perm List.perm_middle
  exact St.gather (R := Own.only (x.hs.length = ls.length ∧ x.n = ls.length) :: Own.of x.val T x.hs :: famL e x.hs ls) (h2.only ⟨hp, hn.trans hp⟩)
/-- how it reads -/
structure NestR {α : Type} [Flat α] (w : World) (x : Rows) (ls : List (List α)) : Prop where
  rd : RdL w x.A x.hs
  nl : NestL w x.hs ls
  n : x.n = ls.length
  cap : ls.length ≤ x.c
theorem St.nestAt {α : Type} [Flat α] {w0 w : World} {L : List Own} (h : St w0 w L) (m : Nat) {x : Rows} {T e : Nat} {ls : List (List α)} (hm : L[m]? = some (Own.nest x T e ls)) : NestR w x ls := by
  obtain ⟨⟨p1, p2⟩, h1⟩ := (h.bring m hm).nestOpen
  have hc : x.hs.length ≤ x.c := h1.capAt 0 (A := x.A) (n := x.n) (c := x.c) (t := T) (l := x.hs) rfl
  exact ⟨h1.rdAt 0 (A := x.A) (n := x.n) (c := x.c) (t := T) (l := x.hs) rfl, h1.famAt 1 rfl p1, p2, by omega⟩
theorem St.nestNil {α : Type} [Flat α] {w0 w : World} {L : List Own} (h : St w0 w L) (T e : Nat) : St w0 w (Own.nest (α := α) Rows.none T e [] :: L) :=
  St.nestMk rfl ((h.famNil (α := α) e).nil T)
/-- one more behind them -/
theorem St.nestAdd {α : Type} [Flat α] {w0 w : World} {L : List Own} {x : Rows} {v : Value} {A : Option Addr} {c T e : Nat} {l : List α} {ls : List (List α)} (hp : x.hs.length = ls.length) (h : St w0 w (Own.of v T (x.hs ++ [⟨A, l.length, c⟩]) :: Own.fam e x.hs ls :: Own.of (.slice A l.length c) e l :: L)) :
    ∃ y : Rows, v = y.val ∧ St w0 w (Own.nest y T e (ls ++ [l]) :: L) := by
  obtain ⟨B, d, rfl⟩ := h.open 0 rfl
  refine ⟨⟨B, _, d, x.hs ++ [⟨A, l.length, c⟩]⟩, rfl, St.nestMk (by simp [hp]) ?_⟩
  have h1 : St w0 w (Own.of (.slice A l.length c) e l :: Own.fam e x.hs ls :: Own.of (.slice B (x.hs ++ [(⟨A, l.length, c⟩ : Hdr)]).length d) T (x.hs ++ [(⟨A, l.length, c⟩ : Hdr)]) :: L) := by
    refine h.perm ?_
    exact (List.Perm.cons _ (List.Perm.swap _ _ _)).trans ((List.Perm.swap _ _ _).trans (List.Perm.cons _ (List.Perm.swap _ _ _)))
  exact (h1.famAdd hp).perm (List.Perm.swap _ _ _)
section
variable {P : Program} {n : Nat} {ops : Array Oper} {Q : Exit → Act → World → Prop} [Dfs]
end
end Go.Proofs.Ytchcdadpahakfaa.GV
