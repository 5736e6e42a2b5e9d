/- The walker's core, 39th part: deep data as arguments of a row. Written for this work. -/
import Derived.Test.YtcjphfmmmlgcbaaGv38
namespace Go.Proofs.Ytcjphfmmmlgcbaa.GV
open Go Go.RowKit Go.ChangeShapes Go.WideShapes
set_option linter.unusedVariables false
set_option linter.unusedSimpArgs false
/-- kinds of cells: plain ones, heads of rows -/
inductive DK where
  | lit (k : CK)
  | row (t : TypeId)
def deepKF (P : Program) (rec : TypeId → Option (List DK)) : Nat → List Field → Option (List DK)
  | _, [] => some []
  | o, f :: fs => match Nat.beq f.offset o with
    | false => none
    | true => match rec f.type with
      | none => none
      | some k => match Nat.beq k.length (P.cellsOf f.type) with
        | false => none
        | true => match deepKF P rec (o + k.length) fs with
          | none => none
          | some r => some (k ++ r)
def deepK (P : Program) : Nat → TypeId → Option (List DK)
  | 0, _ => none
  | d + 1, t => match P.underlying t with
    | some .bool => some [.lit .bool]
    | some (.int k) => some [.lit (.int k)]
    | some .string => some [.lit .str]
    | some (.slice _) => some [.row t]
    | some (.struct fs) => match deepKF P (deepK P d) 0 fs.toList with
      | none => none
      | some ks => match Nat.beq ks.length (P.cellsOf t) with
        | true => some ks
        | false => none
    | _ => none
section
variable {H : Type} {enc : TypeId × Value → H} {P : Program} {w : World} {base : Nat} {spare : Nat → Bool} {held : Bool}
theorem weightsEach_mem {ts : List TypeId} {ds : List (DataW H)} {j : Nat} {t : TypeId} {d : DataW H} (ht : ts[j]? = some t) (hd : ds[j]? = some d) {n : Nat} (hn : n ∈ d.weights P t) : n ∈ DataW.weightsEach P ts ds := DataW.weights_mem_each ht hd n hn
theorem sizeOf_part {l : List (DataW H)} {d : DataW H} (h : d ∈ l) : SizeOf.sizeOf d < SizeOf.sizeOf l := List.sizeOf_lt_of_mem h
/-- the zone of a world's own -/
abbrev Zof (w : World) : Zone := fun w' => Sub w w'
theorem RdL.zof {α : Type} [Flat α] {A : Option Addr} {l : List α} (h : RdL w A l) : RdF (Zof w) A l := fun w' k => h.sub k
end
end Go.Proofs.Ytcjphfmmmlgcbaa.GV
