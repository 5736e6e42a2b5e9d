/- The walker's core, 39th part: deep data as arguments of a row. Written for this work. -/
import Derived.Test.YtccfilmiboepjaaDoorGv38
namespace Go.Proofs.YtccfilmiboepjaaDoor.GV
open Go Go.RowKit Go.ChangeShapes Go.WideShapes
set_option linter.unusedVariables false
set_option linter.unusedSimpArgs false
/-- kinds of cells: plain ones, heads of rows -/
inductive DK where
  | lit (k : CK)
  | row (t : TypeId)
def DK.fits (Q : TypeId → Value → Prop) : DK → Value → Prop
  | .lit k, v => k.fits2 v
  | .row t, v => Q t v
def fitsD (Q : TypeId → Value → Prop) : List DK → List Value → Prop
  | [], vs => vs = []
  | k :: ks, vs => ∃ v r, vs = v :: r ∧ k.fits Q v ∧ fitsD Q ks r
theorem fitsD_append {Q : TypeId → Value → Prop} : ∀ (ks : List DK) {ms : List DK} {vs ws : List Value}, fitsD Q ks vs → fitsD Q ms ws → fitsD Q (ks ++ ms) (vs ++ ws)
  | [], ms, vs, ws, h, g => by obtain rfl : vs = [] := h; simpa using g
  | k :: ks, ms, vs, ws, h, g => by
    obtain ⟨v, r, rfl, h1, h2⟩ := h
    exact ⟨v, r ++ ws, rfl, h1, fitsD_append ks h2 g⟩
def deepKF (P : Program) (rec : TypeId → Option (List DK)) : Nat → List Field → Option (List DK)
  | _, [] => some []
  | o, f :: fs => match Nat.beq f.offset o with
    | false => none
    | true => match rec f.type with
      | none => none
      | some k => match Nat.beq k.length (P.cellsOf f.type) with
        | false => none
        | true => match deepKF P rec (o + k.length) fs with
          | none => none
          | some r => some (k ++ r)
def deepK (P : Program) : Nat → TypeId → Option (List DK)
  | 0, _ => none
  | d + 1, t => match P.underlying t with
    | some .bool => some [.lit .bool]
    | some (.int k) => some [.lit (.int k)]
    | some .string => some [.lit .str]
    | some (.slice _) => some [.row t]
    | some (.struct fs) => match deepKF P (deepK P d) 0 fs.toList with
      | none => none
      | some ks => match Nat.beq ks.length (P.cellsOf t) with
        | true => some ks
        | false => none
    | _ => none
section
variable {H : Type} {enc : TypeId × Value → H} {P : Program} {w : World} {base : Nat} {spare : Nat → Bool} {held : Bool}
theorem weightsEach_mem {ts : List TypeId} {ds : List (DataW H)} {j : Nat} {t : TypeId} {d : DataW H} (ht : ts[j]? = some t) (hd : ds[j]? = some d) {n : Nat} (hn : n ∈ d.weights P t) : n ∈ DataW.weightsEach P ts ds := DataW.weights_mem_each ht hd n hn
/-- what is asked of the rows within: of lesser data, of weights in reach -/
def RowQ (enc : TypeId × Value → H) (P : Program) (w : World) (base : Nat) (spare : Nat → Bool) (held : Bool) (s : Nat) (Q : TypeId → Value → Prop) : Prop :=
  ∀ (m : Nat) (t : TypeId) (v : Value) (x : DataW H × List MemPlace), (∃ e, P.underlying t = some (.slice e)) → DataW.trod enc P w base spare held m t [v] = some x → SizeOf.sizeOf x.1 ≤ s → (∀ n ∈ x.1.weights P t, n ≤ reachBytes) → Q t v
theorem deepKF_fits {rec : TypeId → Option (List DK)} {n s : Nat} {Q : TypeId → Value → Prop} (hrec : ∀ t ks cs x, rec t = some ks → DataW.trod enc P w base spare held n t cs = some x → SizeOf.sizeOf x.1 ≤ s → (∀ n ∈ x.1.weights P t, n ≤ reachBytes) → fitsD Q ks cs) {cs : List Value} :
    ∀ (fs : List Field) (o : Nat) (ks : List DK), deepKF P rec o fs = some ks → cs.length = o + ks.length →
      (∀ f ∈ fs, ∃ x, DataW.trod enc P w base spare held n f.type ((cs.drop f.offset).take (P.cellsOf f.type)) = some x ∧ SizeOf.sizeOf x.1 ≤ s ∧ (∀ n ∈ x.1.weights P f.type, n ≤ reachBytes)) → fitsD Q ks (cs.drop o)
  | [], o, ks, h, hl, _ => by
    simp only [deepKF, Option.some.injEq] at h
    subst h
    show cs.drop o = []
    exact List.drop_eq_nil_of_le (by simp at hl; omega)
  | f :: fs, o, ks, h, hl, hm => by
    simp only [deepKF] at h
    split at h
    · cases h
    · rename_i ho
      split at h
      · cases h
      · rename_i k hk
        split at h
        · cases h
        · rename_i hkl
          split at h
          · cases h
          · rename_i r hr
            simp only [Option.some.injEq] at h
            subst h
            have ho' : f.offset = o := Nat.eq_of_beq_eq_true ho
            have hkl' : k.length = P.cellsOf f.type := Nat.eq_of_beq_eq_true hkl
            obtain ⟨x, hx, hs, hw⟩ := hm f (by simp)
            have h1 := hrec _ _ _ _ hk hx hs hw
            simp only [List.length_append] at hl
            have h2 := deepKF_fits hrec fs (o + k.length) r hr (by omega) (fun g hg => hm g (List.mem_cons_of_mem _ hg))
            have e : cs.drop o = (cs.drop f.offset).take (P.cellsOf f.type) ++ cs.drop (o + k.length) := by
              rw [ho', ← hkl', ← List.drop_drop, List.take_append_drop]
            rw [e]
            exact fitsD_append _ h1 h2
theorem sizeOf_part {l : List (DataW H)} {d : DataW H} (h : d ∈ l) : SizeOf.sizeOf d < SizeOf.sizeOf l := List.sizeOf_lt_of_mem h
theorem fields_fit {d n s : Nat} {Q : TypeId → Value → Prop} (ih : ∀ t ks cs x, deepK P d t = some ks → DataW.trod enc P w base spare held n t cs = some x → SizeOf.sizeOf x.1 ≤ s → (∀ n ∈ x.1.weights P t, n ≤ reachBytes) → fitsD Q ks cs)
    {t : TypeId} {fs : Array Field} {ks : List DK} {cs : List Value} {xs : List (DataW H × List MemPlace)} (hu : P.underlying t = some (.struct fs)) (hks : deepKF P (deepK P d) 0 fs.toList = some ks) (hkl : ks.length = P.cellsOf t) (hl : cs.length = P.cellsOf t) (hlen : xs.length = fs.size)
    (hf : ∀ (i : Nat) (f : Field), fs[i]? = some f → DataW.trod enc P w base spare held n f.type ((cs.drop f.offset).take (P.cellsOf f.type)) = xs[i]?) (hs : ∀ x ∈ xs, SizeOf.sizeOf x.1 ≤ s) (hw : ∀ n ∈ (DataW.agg (xs.map (·.1))).weights P t, n ≤ reachBytes) : fitsD Q ks cs := by
  have := deepKF_fits (rec := deepK P d) (n := n) (s := s) (Q := Q) ih (cs := cs) fs.toList 0 ks hks (by omega) (fun f hf' => by
    obtain ⟨i, hi⟩ := List.mem_iff_getElem?.1 hf'
    have hi' : fs[i]? = some f := by simpa using hi
    have hlt : i < xs.length := by rw [hlen]; exact (Array.getElem?_eq_some_iff.1 hi').1
    refine ⟨xs[i], by rw [hf i f hi', List.getElem?_eq_getElem hlt], hs _ (List.getElem_mem hlt), fun n hn => hw n ?_⟩
    simp only [DataW.weights, hu]
    exact weightsEach_mem (j := i) (t := f.type) (d := xs[i].1) (by rw [List.getElem?_map, hi]; rfl) (by rw [List.getElem?_map, List.getElem?_eq_getElem hlt]; rfl) hn)
  simpa using this
theorem deepK_fits {s : Nat} {Q : TypeId → Value → Prop} (hQ : RowQ enc P w base spare held s Q) : ∀ (d : Nat) (n : Nat) (t : TypeId) (ks : List DK) (cs : List Value) (x : DataW H × List MemPlace), deepK P d t = some ks → DataW.trod enc P w base spare held n t cs = some x → SizeOf.sizeOf x.1 ≤ s → (∀ n ∈ x.1.weights P t, n ≤ reachBytes) → fitsD Q ks cs
  | 0, n, t, ks, cs, x, h, _, _, _ => by simp [deepK] at h
  | d + 1, n, t, ks, cs, x, h, hx, hs, hw => by
    simp only [deepK] at h
    split at h
    · rename_i hu
      simp only [Option.some.injEq] at h
      subst h
      obtain ⟨b, rfl, _⟩ := DataW.trod_bool hu hx
      exact ⟨_, [], rfl, ⟨_, rfl⟩, rfl⟩
    · rename_i k hu
      simp only [Option.some.injEq] at h
      subst h
      obtain ⟨b, rfl, _, hwf⟩ := DataW.trod_int hu hx
      exact ⟨_, [], rfl, ⟨_, rfl, hwf⟩, rfl⟩
    · rename_i hu
      simp only [Option.some.injEq] at h
      subst h
      obtain ⟨b, rfl, _, hsz⟩ := DataW.trod_string hu hx
      exact ⟨_, [], rfl, ⟨_, rfl, hsz⟩, rfl⟩
    · rename_i e hu
      simp only [Option.some.injEq] at h
      subst h
      have hv : ∃ v, cs = [v] := by
        rcases Go.Deep.open_slice hu hx with ⟨hcs, _⟩ | ⟨a, len, cap, m, n, D, Pl, hcs, _⟩ <;> exact ⟨_, hcs⟩
      obtain ⟨v, rfl⟩ := hv
      exact ⟨v, [], rfl, hQ n t v x ⟨e, hu⟩ hx hs hw, rfl⟩
    · rename_i fs hu
      split at h
      · cases h
      · rename_i ks' hks
        split at h
        · rename_i hkl
          simp only [Option.some.injEq] at h
          subst h
          have hkl' := Nat.eq_of_beq_eq_true hkl
          obtain ⟨xs, m, rfl, rfl, hl, hlen, hf⟩ := DataW.trod_struct hu hx
          refine fields_fit (fun t ks cs x h hx hs hw => deepK_fits hQ d m t ks cs x h hx hs hw) hu hks hkl' hl hlen hf (fun x hx => ?_) hw
          have h1 : x.1 ∈ xs.map (·.1) := List.mem_map.2 ⟨x, hx, rfl⟩
          have h2 := sizeOf_part h1
          have h3 : SizeOf.sizeOf (DataW.agg (xs.map (·.1))) = 1 + SizeOf.sizeOf (xs.map (·.1)) := by simp
          have hs' : SizeOf.sizeOf (DataW.agg (xs.map (·.1))) ≤ s := hs
          omega
        · cases h
    · cases h
/-- of a struct the rows within are of less -/
theorem deepK_less {Q : TypeId → Value → Prop} {d n : Nat} {t : TypeId} {ks : List DK} {cs : List Value} {x : DataW H × List MemPlace} (hst : (match P.underlying t with | some (.struct _) => true | _ => false) = true) (hk : deepK P (d + 1) t = some ks)
    (hx : DataW.trod enc P w base spare held n t cs = some x) (hw : ∀ n ∈ x.1.weights P t, n ≤ reachBytes) (hQ : ∀ s, s < SizeOf.sizeOf x.1 → RowQ enc P w base spare held s Q) : fitsD Q ks cs := by
  simp only [deepK] at hk
  split at hk
  · rename_i hu; rw [hu] at hst; cases hst
  · rename_i hu; rw [hu] at hst; cases hst
  · rename_i hu; rw [hu] at hst; cases hst
  · rename_i hu; rw [hu] at hst; cases hst
  · rename_i fs hu
    split at hk
    · cases hk
    · rename_i ks' hks
      split at hk
      · rename_i hkl
        simp only [Option.some.injEq] at hk
        subst hk
        have hkl' := Nat.eq_of_beq_eq_true hkl
        obtain ⟨xs, m, rfl, rfl, hl, hlen, hf⟩ := DataW.trod_struct hu hx
        have h3 : SizeOf.sizeOf (DataW.agg (xs.map (·.1))) = 1 + SizeOf.sizeOf (xs.map (·.1)) := by simp
        refine fields_fit (s := SizeOf.sizeOf (xs.map (·.1))) (fun t ks cs x h hx hs hw => deepK_fits (hQ _ (by show _ < SizeOf.sizeOf (DataW.agg (xs.map (·.1))); omega)) d m t ks cs x h hx hs hw) hu hks hkl' hl hlen hf (fun x hx => ?_) hw
        exact Nat.le_of_lt (sizeOf_part (List.mem_map.2 ⟨x, hx, rfl⟩))
      · cases hk
  · cases hk
/-- the zone of a world's own -/
abbrev Zof (w : World) : Zone := fun w' => Sub w w'
theorem RdL.zof {α : Type} [Flat α] {A : Option Addr} {l : List α} (h : RdL w A l) : RdF (Zof w) A l := fun w' k => h.sub k
/-- a slice of deep data, opened, if its elements can be -/
theorem gate_rowD {α : Type} [DRep α] [Ok α] {t e : TypeId} {v : Value} {fuel : Nat} {x : DataW H × List MemPlace} (ht : P.underlying t = some (.slice e)) (hc : P.cellsOf e = Flat.sz (DRep.H α)) (hby : Nat.blt 0 (P.bytesOf e) = true)
    (h : DataW.trod enc P w base spare held fuel t [v] = some x) (hwt : ∀ n ∈ x.1.weights P t, n ≤ reachBytes)
    (hel : ∀ (m : Nat) (cs : List Value) (y : DataW H × List MemPlace), DataW.trod enc P w base spare held m e cs = some y → SizeOf.sizeOf y.1 < SizeOf.sizeOf x.1 → (∀ n ∈ y.1.weights P e, n ≤ reachBytes) → ∃ (g : DRep.H α) (z : α), cs = Flat.cells g ∧ DRep.rel (Zof w) g z ∧ Ok.ok z) :
    ∃ (l : List α) (A : Option Addr) (c : Nat), v = .slice A l.length c ∧ l.length ≤ c ∧ RdZ (Zof w) A l ∧ l.length * P.bytesOf e ≤ reachBytes ∧ ∀ y ∈ l, Ok.ok y := by
  rcases Go.Deep.open_slice ht h with ⟨hcs, _⟩ | ⟨a, n0, c0, m, n, D, Pl, hcs, _, hlc, _, hm, hx, hel'⟩
  · injection hcs with hcs _
    exact ⟨[], none, 0, hcs, Nat.zero_le _, RdZ.nil _, by simp, by simp⟩
  · injection hcs with hcs _
    subst hcs
    have hlm : n0 ≤ m := by rw [hm]; split <;> omega
    have hd : x.1 = .slice ((List.range n0).map D) ((List.range (m - n0)).map fun j => D (n0 + j)) := by rw [hx]
    obtain ⟨q, hq, hp⟩ := exists_list (α := DRep.H α × α) (p := fun i y => w.cells? base (a.add (i * P.cellsOf e)) (P.cellsOf e) = some (Flat.cells y.1) ∧ DRep.rel (Zof w) y.1 y.2 ∧ Ok.ok y.2) n0 (fun i hi => by
      obtain ⟨cs', h1, h2⟩ := hel' i (by omega)
      have hmem : D i ∈ (List.range n0).map D := List.mem_map.2 ⟨i, List.mem_range.2 hi, rfl⟩
      obtain ⟨g, z, rfl, hr, ho⟩ := hel n cs' _ h2 (by
        rw [hd]
        have := sizeOf_part hmem
        simp only [DataW.slice.sizeOf_spec]
        show SizeOf.sizeOf (D i) < _
        omega) (fun k hk => hwt k (by
          rw [hd]
          simp only [DataW.weights, ht, List.mem_cons, List.mem_append]
          exact .inr (.inl (weightsAll_mem hmem k hk))))
      exact ⟨(g, z), h1, hr, ho⟩)
    refine ⟨q.map (·.2), some a, c0, by simp [hq], by simpa [hq] using hlc, ⟨q.map (·.1), ⟨by simp, fun i y z hy hz => ?_⟩, RdL.zof ⟨?_, fun hpos => ?_, fun b o ha i j hi hj => ?_⟩⟩, ?_, fun y hy => ?_⟩
    · rw [List.getElem?_map] at hy hz
      obtain ⟨y1, h1, rfl⟩ := Option.map_eq_some_iff.1 hy
      obtain ⟨y2, h2, rfl⟩ := Option.map_eq_some_iff.1 hz
      rw [h1] at h2
      obtain rfl := Option.some.inj h2
      exact (hp i _ h1).2.1
    · have hb : 0 < P.bytesOf e := by simpa [Nat.blt_eq] using hby
      have h1 := hwt ((n0 + (m - n0)) * P.bytesOf e) (by rw [hd]; simp [DataW.weights, ht])
      have h2 := reachBytes_lt
      have h3 : n0 + (m - n0) ≤ (n0 + (m - n0)) * P.bytesOf e := Nat.le_mul_of_pos_right _ hb
      simp only [List.length_map, hq]
      omega
    · obtain ⟨b, o, sp⟩ := a
      have hpos' : 0 < q.length := by simpa using hpos
      have hx0 : q[0]? = some q[0] := List.getElem?_eq_getElem hpos'
      obtain ⟨_, hlen, hget⟩ := World.cells?_some (hp 0 _ hx0).1
      have h0 := hget 0 (by rw [hc]; exact Flat.pos)
      have hfl : 0 < (Flat.cells q[0].1).length := by rw [Flat.len]; exact Flat.pos
      rw [List.getElem?_eq_getElem hfl] at h0
      have hsp : sp = none := by
        have := World.cell?_spot h0
        simpa [Addr.add] using this
      subst hsp
      exact ⟨b, o, rfl⟩
    · injection ha with ha
      subst ha
      have hi' : i < q.length := by simpa using hi
      have hx0 : q[i]? = some q[i] := List.getElem?_eq_getElem hi'
      obtain ⟨_, hlen, hget⟩ := World.cells?_some (hp i _ hx0).1
      have h0 := hget j (by rw [hc]; exact hj)
      rw [hc, WideShapes.add_plain, WideShapes.add_plain] at h0
      rw [h0]
      have hfl : j < (Flat.cells q[i].1).length := by rw [Flat.len]; exact hj
      simp [flatF, hi', hfl]
    · have h1 := hwt ((n0 + (m - n0)) * P.bytesOf e) (by rw [hd]; simp [DataW.weights, ht])
      have h3 : n0 * P.bytesOf e ≤ (n0 + (m - n0)) * P.bytesOf e := Nat.mul_le_mul_right _ (by omega)
      simp only [List.length_map, hq]
      omega
    · obtain ⟨z, hz, rfl⟩ := List.mem_map.1 hy
      obtain ⟨i, hi⟩ := List.mem_iff_getElem?.1 hz
      exact (hp i z hi).2.2
/-- a slice of plain data within, opened -/
theorem gate_rowF {α : Type} [Flat α] [Ok α] {t e : TypeId} {v : Value} {fuel : Nat} {x : DataW H × List MemPlace} (ht : P.underlying t = some (.slice e)) (ks : List CK) (hk : flatK P 8 e = some ks) (hof : ∀ cs, fitsAll2 ks cs → ∃ y : α, cs = Flat.cells y ∧ Ok.ok y) (hc : P.cellsOf e = Flat.sz α) (hby : Nat.blt 0 (P.bytesOf e) = true)
    (h : DataW.trod enc P w base spare held fuel t [v] = some x) (hwt : ∀ n ∈ x.1.weights P t, n ≤ reachBytes) : ∃ (l : List α) (A : Option Addr) (c : Nat), v = .slice A l.length c ∧ l.length ≤ c ∧ RdF (Zof w) A l ∧ l.length * P.bytesOf e ≤ reachBytes ∧ ∀ y ∈ l, Ok.ok y := by
  obtain ⟨l, A, c, hv, hR, hl, hok⟩ := gate_cells (α := α) ht ks hk hof hc hby h hwt
  injection hv with hv _
  refine ⟨l, A, c, hv, hl, hR.zof, ?_, hok⟩
  rcases Go.Deep.open_slice ht h with ⟨hcs, _⟩ | ⟨a, n0, c0, m, n, D, Pl, hcs, _, hlc, _, hm, hx, hel'⟩
  · injection hcs with hcs _
    rw [hv] at hcs
    injection hcs with _ h0 _
    rw [h0]; simp
  · injection hcs with hcs _
    rw [hv] at hcs
    injection hcs with _ h0 _
    have hd : x.1 = .slice ((List.range n0).map D) ((List.range (m - n0)).map fun j => D (n0 + j)) := by rw [hx]
    have h1 := hwt ((n0 + (m - n0)) * P.bytesOf e) (by rw [hd]; simp [DataW.weights, ht])
    have h3 : n0 * P.bytesOf e ≤ (n0 + (m - n0)) * P.bytesOf e := Nat.mul_le_mul_right _ (by omega)
    rw [h0]; omega
end
end Go.Proofs.YtccfilmiboepjaaDoor.GV
