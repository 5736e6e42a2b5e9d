/- The walker's core, eighth part: a row's arguments opened and shut. Written for this work. -/
import Derived.Test.YtchcdadpahakfaaGv7
import Derived.Deep.Slices
import Derived.Carry
import Derived.SizedLaws
import Derived.ProofKit
import Derived.Handed
import Derived.LaidLaws
namespace Go.Proofs.Ytchcdadpahakfaa.GV
open Go Go.RowKit Go.ChangeShapes Go.WideShapes
set_option linter.unusedVariables false
set_option linter.unusedSimpArgs false

inductive CK where
  | int (k : IntKind)
  | bool
  | str
def flatKF (P : Program) (rec : TypeId → Option (List CK)) : Nat → List Field → Option (List CK)
  | _, [] => some []
  | o, f :: fs => match Nat.beq f.offset o with
    | false => none
    | true => match rec f.type with
      | none => none
      | some k => match Nat.beq k.length (P.cellsOf f.type) with
        | false => none
        | true => match flatKF P rec (o + k.length) fs with
          | none => none
          | some r => some (k ++ r)
def flatK (P : Program) : Nat → TypeId → Option (List CK)
  | 0, _ => none
  | d + 1, t => match P.underlying t with
    | some .bool => some [.bool]
    | some (.int k) => some [.int k]
    | some .string => some [.str]
    | some (.struct fs) => match flatKF P (flatK P d) 0 fs.toList with
      | none => none
      | some ks => match Nat.beq ks.length (P.cellsOf t) with
        | false => none
        | true => some ks
    | _ => none
section
variable {H : Type} {enc : TypeId × Value → H} {P : Program} {w : World} {base : Nat} {spare : Nat → Bool} {held : Bool}
/-- a list out of its elements -/
theorem exists_list {α : Type} {p : Nat → α → Prop} : ∀ (n : Nat), (∀ i, i < n → ∃ y, p i y) → ∃ l : List α, l.length = n ∧ ∀ i y, l[i]? = some y → p i y
  | 0, _ => ⟨[], rfl, by simp⟩
  | n + 1, h => by
    obtain ⟨l, hl, hp⟩ := exists_list n (fun i hi => h i (by omega))
    obtain ⟨y, hy⟩ := h n (by omega)
    refine ⟨l ++ [y], by simp [hl], fun i z hz => ?_⟩
    by_cases hi : i < l.length
    · rw [List.getElem?_append_left hi] at hz; exact hp i z hz
    · rw [List.getElem?_append_right (by omega)] at hz
      have : i - l.length = 0 := by
        by_cases h0 : i - l.length = 0
        · exact h0
        · rw [List.getElem?_eq_none (by simp; omega)] at hz; cases hz
      rw [this] at hz
      simp only [List.getElem?_cons_zero, Option.some.injEq] at hz
      subst hz
      rw [show i = n by omega]; exact hy
/-- what is handed in reads as it did -/
theorem gate_args (hl : laidOutB P = true) {W W' : World} (hb : Below W.heap.size W W') : ∀ {ts : List TypeId} {vs : List Value} {ds : List (DataW H)} {ps : List MemPlace}, (ts.all fun t => P.readableRec t && decide (t < P.types.size)) = true →
    DataW.TrodAll enc P W 0 (fun _ => true) true ts vs ds ps → (∀ x ∈ ps, x.block < W.heap.size) → DataW.TrodAll enc P W' 0 (fun b => decide (b < W.heap.size)) true ts vs ds ps
  | [], [], [], ps, _, h, _ => h
  | [], _ :: _, _, _, _, h, _ => h.elim
  | [], [], _ :: _, _, _, h, _ => h.elim
  | _ :: _, [], _, _, _, h, _ => h.elim
  | _ :: _, _ :: _, [], _, _, h, _ => h.elim
  | t :: ts, v :: vs, d :: ds, ps, ht, h, hlt => by
    obtain ⟨p, q, h1, h2, rfl⟩ := h
    simp only [List.all_cons, Bool.and_eq_true, decide_eq_true_eq] at ht
    exact ⟨p, q, Below.trod hl ht.1.1 ht.1.2 h1 hb (fun x hx => hlt x (List.mem_append_left _ hx)), gate_args hl hb ht.2 h2 (fun x hx => hlt x (List.mem_append_right _ hx)), rfl⟩
end
section
variable {H : Type} {enc : TypeId × Value → H} {P : Program} {w : World} {base : Nat} {spare : Nat → Bool} {held : Bool}
end
end Go.Proofs.Ytchcdadpahakfaa.GV
