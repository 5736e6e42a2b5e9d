/- The walker's core, eighth part: a row's arguments opened and shut. Written for this work. -/
import Derived.Test.YtchcdadpahakfaaDoorGv7
import Derived.Deep.Slices
import Derived.Carry
import Derived.SizedLaws
import Derived.ProofKit
import Derived.Handed
import Derived.LaidLaws
namespace Go.Proofs.YtchcdadpahakfaaDoor.GV
open Go Go.RowKit Go.ChangeShapes Go.WideShapes
set_option linter.unusedVariables false
set_option linter.unusedSimpArgs false

inductive CK where
  | int (k : IntKind)
  | bool
  | str
def flatKF (P : Program) (rec : TypeId → Option (List CK)) : Nat → List Field → Option (List CK)
  | _, [] => some []
  | o, f :: fs => match Nat.beq f.offset o with
    | false => none
    | true => match rec f.type with
      | none => none
      | some k => match Nat.beq k.length (P.cellsOf f.type) with
        | false => none
        | true => match flatKF P rec (o + k.length) fs with
          | none => none
          | some r => some (k ++ r)
def flatK (P : Program) : Nat → TypeId → Option (List CK)
  | 0, _ => none
  | d + 1, t => match P.underlying t with
    | some .bool => some [.bool]
    | some (.int k) => some [.int k]
    | some .string => some [.str]
    | some (.struct fs) => match flatKF P (flatK P d) 0 fs.toList with
      | none => none
      | some ks => match Nat.beq ks.length (P.cellsOf t) with
        | false => none
        | true => some ks
    | _ => none
section
variable {H : Type} {enc : TypeId × Value → H} {P : Program} {w : World} {base : Nat} {spare : Nat → Bool} {held : Bool}
/-- a list out of its elements -/
theorem exists_list {α : Type} {p : Nat → α → Prop} : ∀ (n : Nat), (∀ i, i < n → ∃ y, p i y) → ∃ l : List α, l.length = n ∧ ∀ i y, l[i]? = some y → p i y
  | 0, _ => ⟨[], rfl, by simp⟩
  | n + 1, h => by
    obtain ⟨l, hl, hp⟩ := exists_list n (fun i hi => h i (by omega))
    obtain ⟨y, hy⟩ := h n (by omega)
    refine ⟨l ++ [y], by simp [hl], fun i z hz => ?_⟩
    by_cases hi : i < l.length
    · rw [List.getElem?_append_left hi] at hz; exact hp i z hz
    · rw [List.getElem?_append_right (by omega)] at hz
      have : i - l.length = 0 := by
        by_cases h0 : i - l.length = 0
        · exact h0
        · rw [List.getElem?_eq_none (by simp; omega)] at hz; cases hz
      rw [this] at hz
      simp only [List.getElem?_cons_zero, Option.some.injEq] at hz
      subst hz
      rw [show i = n by omega]; exact hy
/-- what is handed in reads as it did -/
theorem gate_args (hl : laidOutB P = true) {W W' : World} (hb : Below W.heap.size W W') : ∀ {ts : List TypeId} {vs : List Value} {ds : List (DataW H)} {ps : List MemPlace}, (ts.all fun t => P.readableRec t && decide (t < P.types.size)) = true →
    DataW.TrodAll enc P W 0 (fun _ => true) true ts vs ds ps → (∀ x ∈ ps, x.block < W.heap.size) → DataW.TrodAll enc P W' 0 (fun b => decide (b < W.heap.size)) true ts vs ds ps
  | [], [], [], ps, _, h, _ => h
  | [], _ :: _, _, _, _, h, _ => h.elim
  | [], [], _ :: _, _, _, h, _ => h.elim
  | _ :: _, [], _, _, _, h, _ => h.elim
  | _ :: _, _ :: _, [], _, _, h, _ => h.elim
  | t :: ts, v :: vs, d :: ds, ps, ht, h, hlt => by
    obtain ⟨p, q, h1, h2, rfl⟩ := h
    simp only [List.all_cons, Bool.and_eq_true, decide_eq_true_eq] at ht
    exact ⟨p, q, Below.trod hl ht.1.1 ht.1.2 h1 hb (fun x hx => hlt x (List.mem_append_left _ hx)), gate_args hl hb ht.2 h2 (fun x hx => hlt x (List.mem_append_right _ hx)), rfl⟩
end
def flatLits {H : Type} : Nat → DataW H → List Lit
  | 0, _ => []
  | _ + 1, .lit l => [l]
  | n + 1, .agg ds => ds.flatMap (flatLits n)
  | _, _ => []
def valOf : Lit → Value
  | .int k n => .int k n
  | .bool b => .bool b
  | .string bs => .string ⟨bs.toArray⟩
  | _ => undef
section
variable {H : Type} {enc : TypeId × Value → H} {P : Program} {w : World} {base : Nat} {spare : Nat → Bool} {held : Bool}
theorem flatKF_parts {rec : TypeId → Option (List CK)} {cs : List Value} : ∀ (fs : List Field) (o : Nat) (ks : List CK), flatKF P rec o fs = some ks → cs.length = o + ks.length →
      cs.drop o = (fs.map fun f => (cs.drop f.offset).take (P.cellsOf f.type)).flatten ∧ ∀ f ∈ fs, (rec f.type).isSome = true
  | [], o, ks, h, hl => by
    simp only [flatKF, Option.some.injEq] at h
    subst h
    exact ⟨by simp; simp at hl; omega, by simp⟩
  | f :: fs, o, ks, h, hl => by
    simp only [flatKF] at h
    split at h
    · cases h
    · rename_i ho
      split at h
      · cases h
      · rename_i k hk
        split at h
        · cases h
        · rename_i hkl
          split at h
          · cases h
          · rename_i r hr
            simp only [Option.some.injEq] at h
            subst h
            have ho' : f.offset = o := Nat.eq_of_beq_eq_true ho
            have hkl' : k.length = P.cellsOf f.type := Nat.eq_of_beq_eq_true hkl
            simp only [List.length_append] at hl
            have hl' : cs.length = (o + k.length) + r.length := by omega
            obtain ⟨h2, h3⟩ := flatKF_parts fs (o + k.length) r hr hl'
            refine ⟨?_, fun g hg => ?_⟩
            · rw [List.map_cons, List.flatten_cons, ← h2, ho', ← hkl', ← List.drop_drop, List.take_append_drop]
            · rcases List.mem_cons.1 hg with rfl | hg
              · simp [hk]
              · exact h3 g hg
theorem flatK_vals : ∀ (d : Nat) (n : Nat) (t : TypeId) (cs : List Value) (x : DataW H) (p : List MemPlace), (flatK P d t).isSome = true → DataW.trod enc P w base spare held n t cs = some (x, p) → cs = (flatLits d x).map valOf
  | 0, n, t, cs, x, p, h, _ => by simp [flatK] at h
  | d + 1, n, t, cs, x, p, h, hx => by
    obtain ⟨ks, h⟩ := Option.isSome_iff_exists.1 h
    simp only [flatK] at h
    split at h
    · rename_i hu
      obtain ⟨b, rfl, e⟩ := DataW.trod_bool hu hx
      obtain ⟨rfl, _⟩ := Prod.mk.inj e
      rfl
    · rename_i k hu
      obtain ⟨b, rfl, e, _⟩ := DataW.trod_int hu hx
      obtain ⟨rfl, _⟩ := Prod.mk.inj e
      rfl
    · rename_i hu
      obtain ⟨b, rfl, e, _⟩ := DataW.trod_string hu hx
      obtain ⟨rfl, _⟩ := Prod.mk.inj e
      simp [flatLits, valOf]
    · rename_i fs hu
      split at h
      · cases h
      · rename_i ks' hks
        split at h
        · cases h
        · rename_i hkl
          have hkl' := Nat.eq_of_beq_eq_true hkl
          obtain ⟨xs, m, rfl, e, hl, hlen, hf⟩ := DataW.trod_struct hu hx
          obtain ⟨rfl, _⟩ := Prod.mk.inj e
          have hcl : cs.length = 0 + ks'.length := by rw [hl, hkl']; omega
          obtain ⟨h1, h2⟩ := flatKF_parts (P := P) (rec := flatK P d) (cs := cs) fs.toList 0 ks' hks hcl
          rw [List.drop_zero] at h1
          have e2 : (fs.toList.map fun f => (cs.drop f.offset).take (P.cellsOf f.type)) = xs.map fun y => (flatLits d y.1).map valOf := by
            apply List.ext_getElem?
            intro i
            rw [List.getElem?_map, List.getElem?_map]
            cases hi : fs.toList[i]? with
            | none =>
              have : xs[i]? = none := by
                rw [List.getElem?_eq_none_iff] at hi ⊢
                simp at hi; omega
              rw [this]; rfl
            | some f =>
              have hi' : fs[i]? = some f := by simpa using hi
              have hlt : i < xs.length := by rw [hlen]; exact (Array.getElem?_eq_some_iff.1 hi').1
              have hg := hf i f hi'
              rw [List.getElem?_eq_getElem hlt] at hg ⊢
              generalize xs[i] = y at hg ⊢
              obtain ⟨y, q⟩ := y
              have := flatK_vals d m f.type _ y q (h2 f (List.mem_of_getElem? hi)) hg
              simp [this]
          refine h1.trans ?_
          rw [e2]
          simp [flatLits, List.flatMap_def, List.map_flatten, Function.comp_def]
    · cases h
end
theorem laidVars_at {P : Program} {w : World} : ∀ {l : List (String × DataW Unit)} {ps : List MemPlace} (j : Nat) {n : String} {d : DataW Unit}, DataW.LaidVars P w l ps → l[j]? = some (n, d) →
    ∃ g t cs fuel p, P.globalNamed n = some g ∧ (P.globals[g]?).map (·.type) = some t ∧ w.var? P n = some cs ∧ DataW.trod (fun _ => ()) P w 0 (fun _ => true) false fuel t cs.toList = some (d, p)
  | [], _, j, n, d, _, hj => by simp at hj
  | (n0, d0) :: r, ps, 0, n, d, h, hj => by
    simp only [List.getElem?_cons_zero, Option.some.injEq, Prod.mk.injEq] at hj
    obtain ⟨rfl, rfl⟩ := hj
    obtain ⟨g, t, cs, fuel, p, q, h1, h2, h3, h4, _⟩ := h
    exact ⟨g, t, cs, fuel, p, h1, h2, h3, h4⟩
  | (n0, d0) :: r, ps, j + 1, n, d, h, hj => by
    obtain ⟨g, t, cs, fuel, p, q, _, _, _, _, h5, _⟩ := h
    exact laidVars_at j h5 (by simpa using hj)
theorem laid_glob {P : Program} {W : World} {laid : List (String × DataW Unit)} (hL : laidMet P laid W) (j : Nat) {n : String} {d : DataW Unit} {g t : Nat} {cells : List Value} (hj : laid[j]? = some (n, d)) (hg : P.globalNamed n = some g) (ht : (P.globals[g]?).map (·.type) = some t)
    (hk : (flatK P 8 t).isSome = true) (hc : (flatLits 8 d).map valOf = cells) : Glob W g cells := by
  obtain ⟨ps, hv, _⟩ := hL
  obtain ⟨g', t', cs, fuel, p, hg', ht', hvar, hd⟩ := laidVars_at j hv hj
  obtain rfl := Option.some.inj (hg.symm.trans hg')
  obtain rfl := Option.some.inj (ht.symm.trans ht')
  have := flatK_vals 8 fuel t cs.toList d p hk hd
  rw [hc] at this
  intro i v hi
  rw [World.var?_cell hg hvar i, ← Array.getElem?_toList, this, hi]
theorem laidMetH_plain {P : Program} {l : List (String × DataW Unit)} {w : World} (h : laidMetH P l w) (hf : (l.filter fun x => x.2.handleName?.isSome) = []) : laidMet P l w := by
  unfold laidMetH at h
  rw [hf] at h
  exact h
end Go.Proofs.YtchcdadpahakfaaDoor.GV
