/- The walker's core, on sorts: slices.SortFunc over integers that are owned, by the shelf's contract. Written for this work. -/
import Derived.Test.YtlipdmblinjjaaaGv24
import Derived.Test.YtlipdmblinjjaaaGD1
import Derived.Shelf.SlSortCmp.NoneTotal
namespace Go.Proofs.Ytlipdmblinjjaaa.GV
open Go Go.RowKit Go.Lib Go.Sort Go.Shelf
set_option linter.unusedVariables false
set_option linter.unusedSimpArgs false
/-- may these be put in one order by cmp? -/
structure OkCmp (cmp : Int → Int → Option Int) (l : List Int) : Prop where
  some : ∀ x ∈ l, ∀ y ∈ l, ∃ r, cmp x y = Option.some r
  irr : ∀ x ∈ l, ¬ (cmp x x).getD 0 < 0
  tr : ∀ x ∈ l, ∀ y ∈ l, ∀ z ∈ l, (cmp x y).getD 0 < 0 → (cmp y z).getD 0 < 0 → (cmp x z).getD 0 < 0
  ntr : ∀ x ∈ l, ∀ y ∈ l, ∀ z ∈ l, ¬ (cmp x y).getD 0 < 0 → ¬ (cmp y z).getD 0 < 0 → ¬ (cmp x z).getD 0 < 0
  tot : ∀ x ∈ l, ∀ y ∈ l, ¬ (cmp x y).getD 0 < 0 → ¬ (cmp y x).getD 0 < 0 → x = y
instance (cmp : Int → Int → Option Int) (l : List Int) : Decidable (OkCmp cmp l) :=
  decidable_of_iff ((∀ x ∈ l, ∀ y ∈ l, (cmp x y).isSome = true) ∧ (∀ x ∈ l, ¬ (cmp x x).getD 0 < 0) ∧ (∀ x ∈ l, ∀ y ∈ l, ∀ z ∈ l, (cmp x y).getD 0 < 0 → (cmp y z).getD 0 < 0 → (cmp x z).getD 0 < 0) ∧
    (∀ x ∈ l, ∀ y ∈ l, ∀ z ∈ l, ¬ (cmp x y).getD 0 < 0 → ¬ (cmp y z).getD 0 < 0 → ¬ (cmp x z).getD 0 < 0) ∧ (∀ x ∈ l, ∀ y ∈ l, ¬ (cmp x y).getD 0 < 0 → ¬ (cmp y x).getD 0 < 0 → x = y))
    ⟨fun h => ⟨fun x hx y hy => Option.isSome_iff_exists.1 (h.1 x hx y hy), h.2.1, h.2.2.1, h.2.2.2.1, h.2.2.2.2⟩, fun h => ⟨fun x hx y hy => Option.isSome_iff_exists.2 (h.some x hx y hy), h.irr, h.tr, h.ntr, h.tot⟩⟩
/-- the same in order -/
def sortF (cmp : Int → Int → Option Int) (l : List Int) : Option (List Int) :=
  if OkCmp cmp l then some (l.mergeSort fun x y => !(decide ((cmp y x).getD 0 < 0))) else none
theorem sortF_some {cmp : Int → Int → Option Int} {l l' : List Int} (h : sortF cmp l = some l') : OkCmp cmp l ∧ l' = l.mergeSort fun x y => !(decide ((cmp y x).getD 0 < 0)) := by
  unfold sortF at h
  split at h
  · exact ⟨by assumption, (Option.some.inj h).symm⟩
  · cases h
theorem sortF_len {cmp : Int → Int → Option Int} {l l' : List Int} (h : sortF cmp l = some l') : l.length = l'.length := by
  obtain ⟨_, rfl⟩ := sortF_some h
  exact (List.length_mergeSort _).symm
theorem grow_of {B : Nat} {W w' : World} (h : D.BelowD W.heap.size W w') : ∃ q os, w' = Sort.grow (W.drewN q) os := by
  refine ⟨w'.drawn - W.drawn, w'.heap.extract W.heap.size w'.heap.size, ?_⟩
  have hd := h.drawn
  have hh : w'.heap = W.heap ++ w'.heap.extract W.heap.size w'.heap.size := by
    apply Array.ext_getElem?
    intro k
    rw [Array.getElem?_append]
    by_cases hk : k < W.heap.size
    · rw [if_pos hk]; exact h.block k hk
    · rw [if_neg hk]
      rw [Array.getElem?_extract]
      have hs := h.size
      by_cases hk2 : k < w'.heap.size
      · rw [if_pos (by omega), show W.heap.size + (k - W.heap.size) = k by omega]
      · rw [if_neg (by omega), Array.getElem?_eq_none (by omega)]
  have e : w' = ⟨w'.heap, w'.tape, w'.drawn, w'.os, w'.output⟩ := rfl
  rw [e]
  unfold Sort.grow World.drewN
  simp only
  rw [← hh, h.tape, h.os, h.output, show W.drawn + (w'.drawn - W.drawn) = w'.drawn by omega]
/-- a row that is owned, in another order -/
theorem St.sorted {α : Type} [Inhabited α] {enc : α → Value} {w0 w : World} {L : List Own} {g c t m : Nat} {l : List Int} {d : Array α} {os : Array Obj} {l' : List Int} (h : St w0 w (Own.of (.slice (some ⟨g, 0, none⟩) l.length c) t l :: L)) (hd : d.toList.map enc = l'.map (Value.int .i64)) (hl : l'.length = l.length) :
    St w0 (sortWorld enc w g 0 m d os) (Own.of (.slice (some ⟨g, 0, none⟩) l'.length c) t l' :: L) := by
  have h0 := h.holds _ (List.mem_cons_self ..)
  have hlt := (h.base _ (List.mem_cons_self ..) g (by simp [Own.row, Value.ownBlock])).2
  have hds : d.size = l'.length := by have := congrArg List.length hd; simpa using this
  have hcl : ∀ l : List Int, cellsOf l = l.map (Value.int .i64) := fun l => by
    induction l with
    | nil => rfl
    | cons x r ih => rw [List.map_cons, ← ih]; rfl
  obtain ⟨⟨q1, q2⟩, h2 | ⟨g', cap, cur, hv, hg, hn, hc, hsz, ht⟩⟩ := h0
  · exact absurd h2.1 (by simp)
  injection hv with hA hl2 hcc
  injection hA with hA
  injection hA with hA
  subst hA; subst hcc
  have hw : (sortWorld enc w g 0 m d os).heap[g]? = some (.cells (putCells enc 0 d cur) t (0, 0)) := by
    unfold sortWorld
    rw [heap_grow_old _ _ (by simpa using hlt)]
    simp [putRow, mapBlock, Sort.ahead, Array.getElem?_modify, hg, onCells]
  refine h.upd rfl rfl rfl (by unfold sortWorld; simp) (fun k hk hne => ?_) ⟨⟨by rw [cellsOf_length], by omega⟩, .inr ⟨g, c, _, rfl, hw, by omega, hc, by simp [putCells, hsz], ?_⟩⟩ (fun b hb => ?_)
  · unfold sortWorld
    rw [heap_grow_old _ _ (by simpa using hk)]
    have : g ≠ k := fun e => hne (by simp [Own.row, Value.ownBlock, e])
    simp [putRow, mapBlock, Sort.ahead, Array.getElem?_modify, this]
  · have e1 : l'.length * Flat.sz Int = l'.length := Nat.mul_one _
    have e2 : c * Flat.sz Int = c := Nat.mul_one _
    rw [e1, hcl l', ← hd]
    apply List.ext_getElem?
    intro j
    by_cases hj : j < l'.length
    · rw [List.getElem?_take_of_lt hj, Array.getElem?_toList]
      have hjc : j < cur.size := by rw [hsz, e2]; omega
      simp [putCells, hds, hj, hjc]
    · rw [List.getElem?_take_eq_none (by omega), List.getElem?_eq_none (by simp; omega)]
  · have : b = g := by simpa [Own.row, Value.ownBlock, eq_comm] using hb
    subst this
    exact ⟨.inl (by simp [Own.row, Value.ownBlock]), by unfold sortWorld; simp; omega⟩
/-- slices.SortFunc -/
theorem sort_calls {P : Program} {ρ : Ren} (Ly : SlLaysF.n6 P ρ) (g : Nat) (eg : ∀ args w, (callFunc g args).run P w = .ok (.enter g args) w) {cb : Array Value} {cmp : Int → Int → Option Int} {w0 w : World} {L : List Own} {A : Option Addr} {c t : Nat} {l l' : List Int}
    (hS : St w0 w (Own.of (.slice A l.length c) t l :: L)) (h : sortF cmp l = some l')
    (hC : ∀ (W : World) (k : List Int), k.length = l.length → St w0 W (Own.of (.slice A k.length c) t k :: L) → ∀ x y r, cmp x y = some r → Calls P g (#[.int .i64 x, .int .i64 y] ++ cb) W fun e w' => e = .returned (.int .i64 r) ∧ D.BelowD W.heap.size W w') :
    Calls P (ρ.f 6) #[.slice A l.length c, .func (.func g) #[] cb] w fun e w' => e = .returned (.tuple #[]) ∧ St w0 w' (Own.of (.slice A l'.length c) t l' :: L) := by
  obtain ⟨ok, rfl⟩ := sortF_some h
  by_cases hl : l = []
  · subst hl
    refine (AnyF.slices_SortFunc_none { Ly with } A c (.func (.func g) #[] cb) w).mono fun e w' ⟨h1, h2⟩ => ⟨h1, ?_⟩
    subst h2
    simpa using hS
  have h0 := hS.holds _ (List.mem_cons_self ..)
  have hlen : 0 < l.length := List.length_pos_iff.2 hl
  obtain ⟨⟨q1, q2⟩, h2 | ⟨g', cap, cur, hv, hg, hn, hc, hsz, ht⟩⟩ := h0
  · omega
  injection hv with hA hl2 hcc
  subst hA; subst hcc
  have hlt := (hS.base _ (List.mem_cons_self ..) g' (by simp [Own.row, Value.ownBlock])).2
  obtain ⟨x0, hx0⟩ := List.exists_mem_of_ne_nil l hl
  letI : Inhabited { x : Int // x ∈ l } := ⟨⟨x0, hx0⟩⟩
  let enc : { x : Int // x ∈ l } → Value := fun x => .int .i64 x.1
  let cf : { x : Int // x ∈ l } → { x : Int // x ∈ l } → Int := fun x y => (cmp x.1 y.1).getD 0
  have hlt2 : ∀ x y, ltOf cf x y = decide ((cmp x.1 y.1).getD 0 < 0) := fun x y => rfl
  have hO : SWO (ltOf cf) := ⟨fun x => by rw [hlt2]; simpa using ok.irr x.1 x.2, fun x y z h1 h2 => by rw [hlt2, decide_eq_true_eq] at *; exact ok.tr _ x.2 _ y.2 _ z.2 h1 h2, fun x y z h1 h2 => by rw [hlt2, decide_eq_false_iff_not] at *; exact ok.ntr _ x.2 _ y.2 _ z.2 h1 h2⟩
  have hT : ∀ x y, ltOf cf x y = false → ltOf cf y x = false → x = y := fun x y h1 h2 => by
    rw [hlt2, decide_eq_false_iff_not] at h1 h2
    exact Subtype.ext (ok.tot _ x.2 _ y.2 h1 h2)
  have hds : l.attach.toArray.size = l.length := by simp
  have hcl : ∀ l : List Int, cellsOf l = l.map (Value.int .i64) := fun l => by
    induction l with
    | nil => rfl
    | cons x r ih => rw [List.map_cons, ← ih]; rfl
  have hH : Holds enc w g' 0 l.attach.toArray := fun j hj => by
    have hj' : j < l.length := by simpa using hj
    refine ⟨?_, frozen_of_row w g' _ cur t hg⟩
    have e1 : l.length * Flat.sz Int = l.length := Nat.mul_one _
    rw [e1, hcl] at ht
    have h1 : (cur.toList.take l.length)[j]? = (l.map (Value.int .i64))[j]? := by rw [ht]
    rw [List.getElem?_take_of_lt hj'] at h1
    rw [cell_of_row w g' (0 + j) cur t (0, 0) hg, Nat.zero_add, ← Array.getElem?_toList, h1]
    simp [enc, hj']
  have hcmp : CmpLays1 P g cb enc cf g' 0 l.attach.toArray.size w := fun m os dk hs x y => by
    have hdl : (dk.toList.map (·.1)).length = l.length := by simpa using hs
    have hW : St w0 (sortWorld enc w g' 0 m dk os) (Own.of (.slice (some ⟨g', 0, none⟩) (dk.toList.map (·.1)).length c) t (dk.toList.map (·.1)) :: L) := hS.sorted (by simp [enc, Function.comp_def]) hdl
    obtain ⟨r, hr⟩ := ok.some x.1 x.2 y.1 y.2
    refine (hC _ _ hdl hW x.1 y.1 r hr).mono fun e w' ⟨h1, h2⟩ => ⟨?_, grow_of (B := 0) h2⟩
    rw [h1]
    show _ = Ending.returned (.int .i64 ((cmp x.1 y.1).getD 0))
    rw [hr]; rfl
  have key := Any.slices_SortFunc_total Ly enc (fun _ => rfl) cf hO g cb g' 0 c l.attach.toArray w eg hcmp hH hlt (by rw [hds]; omega) hT
  rw [hds] at key
  refine key.mono fun e w' ⟨h1, n, os, h3⟩ => ⟨h1, ?_⟩
  subst h3
  have hms : (l.attach.mergeSort fun x y => !(ltOf cf y x)).map (·.1) = l.mergeSort fun x y => !(decide ((cmp y x).getD 0 < 0)) := by
    have := List.map_mergeSort (f := fun x : { x : Int // x ∈ l } => x.1) (r := fun x y => !(ltOf cf y x)) (s := fun x y : Int => !(decide ((cmp y x).getD 0 < 0))) (l := l.attach) (fun a _ b _ => by rw [hlt2])
    rw [this]
    simp
  refine hS.sorted ?_ (List.length_mergeSort _)
  rw [← hms]
  simp [enc, Function.comp_def]
end Go.Proofs.Ytlipdmblinjjaaa.GV
