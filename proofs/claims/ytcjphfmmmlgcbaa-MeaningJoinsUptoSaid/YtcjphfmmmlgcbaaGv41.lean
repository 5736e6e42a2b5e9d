/- The walker's core, 41st part: deep data as arguments of a row, with its bulk. Written for this work. -/
import Derived.Test.YtcjphfmmmlgcbaaGv39
namespace Go.Proofs.Ytcjphfmmmlgcbaa.GV
open Go Go.RowKit Go.ChangeShapes Go.WideShapes
set_option linter.unusedVariables false
set_option linter.unusedSimpArgs false
/-- a reckoning of how much data there is -/
structure BulkOf {H : Type} (B : DataW H → Nat) : Prop where
  one : ∀ d, 1 ≤ B d
  agg : ∀ ds : List (DataW H), (ds.map B).sum + 1 ≤ B (.agg ds)
  slice : ∀ es sp : List (DataW H), (es.map B).sum + 1 ≤ B (.slice es sp)
  str : ∀ bs : List UInt8, bs.length ≤ B (.lit (.string bs))
def DK.fitsN (Q : TypeId → Value → Nat → Prop) : DK → Value → Nat → Prop
  | .lit k, v, b => k.fits2 v ∧ ∀ s, v = .string s → s.size ≤ b
  | .row t, v, b => Q t v b
def fitsN (Q : TypeId → Value → Nat → Prop) : List DK → List Value → Nat → Prop
  | [], vs, n => vs = []
  | k :: ks, vs, n => ∃ v r b m, vs = v :: r ∧ b + m ≤ n ∧ k.fitsN Q v b ∧ fitsN Q ks r m
theorem fitsN_more {Q : TypeId → Value → Nat → Prop} {ks : List DK} {vs : List Value} {n m : Nat} (h : fitsN Q ks vs n) (hm : n ≤ m) : fitsN Q ks vs m := by
  cases ks with
  | nil => exact h
  | cons k ks =>
    obtain ⟨v, r, b, c, h1, h2, h3, h4⟩ := h
    exact ⟨v, r, b, c, h1, by omega, h3, h4⟩
theorem fitsN_append {Q : TypeId → Value → Nat → Prop} : ∀ (ks : List DK) {ms : List DK} {vs ws : List Value} {a b : Nat}, fitsN Q ks vs a → fitsN Q ms ws b → fitsN Q (ks ++ ms) (vs ++ ws) (a + b)
  | [], ms, vs, ws, a, b, h, g => by obtain rfl : vs = [] := h; exact fitsN_more g (by omega)
  | k :: ks, ms, vs, ws, a, b, h, g => by
    obtain ⟨v, r, c, d, rfl, h2, h3, h4⟩ := h
    exact ⟨v, r ++ ws, c, d + b, rfl, by omega, h3, fitsN_append ks h4 g⟩
section
variable {H : Type} {enc : TypeId × Value → H} {P : Program} {w : World} {base : Nat} {spare : Nat → Bool} {held : Bool} {B : DataW H → Nat}
def RowQN (enc : TypeId × Value → H) (P : Program) (w : World) (base : Nat) (spare : Nat → Bool) (held : Bool) (B : DataW H → Nat) (s : Nat) (Q : TypeId → Value → Nat → Prop) : Prop :=
  ∀ (m : Nat) (t : TypeId) (v : Value) (x : DataW H × List MemPlace), (∃ e, P.underlying t = some (.slice e)) → DataW.trod enc P w base spare held m t [v] = some x → SizeOf.sizeOf x.1 ≤ s → (∀ n ∈ x.1.weights P t, n ≤ reachBytes) → Q t v (B x.1)
theorem deepKF_fitsN {rec : TypeId → Option (List DK)} {n s : Nat} {Q : TypeId → Value → Nat → Prop} (hrec : ∀ t ks cs x, rec t = some ks → DataW.trod enc P w base spare held n t cs = some x → SizeOf.sizeOf x.1 ≤ s → (∀ n ∈ x.1.weights P t, n ≤ reachBytes) → fitsN Q ks cs (B x.1)) {cs : List Value} :
    ∀ (fs : List Field) (xs : List (DataW H × List MemPlace)) (o : Nat) (ks : List DK), deepKF P rec o fs = some ks → cs.length = o + ks.length → xs.length = fs.length →
      (∀ (i : Nat) (f : Field) (x : DataW H × List MemPlace), fs[i]? = some f → xs[i]? = some x → DataW.trod enc P w base spare held n f.type ((cs.drop f.offset).take (P.cellsOf f.type)) = some x ∧ SizeOf.sizeOf x.1 ≤ s ∧ (∀ n ∈ x.1.weights P f.type, n ≤ reachBytes)) → fitsN Q ks (cs.drop o) ((xs.map (fun x => B x.1)).sum)
  | [], xs, o, ks, h, hl, _, _ => by
    simp only [deepKF, Option.some.injEq] at h
    subst h
    show cs.drop o = []
    exact List.drop_eq_nil_of_le (by simp at hl; omega)
  | f :: fs, [], o, ks, h, hl, hx, hm => by simp at hx
  | f :: fs, x :: xs, o, ks, h, hl, hxl, hm => by
    simp only [deepKF] at h
    split at h
    · cases h
    · rename_i ho
      split at h
      · cases h
      · rename_i k hk
        split at h
        · cases h
        · rename_i hkl
          split at h
          · cases h
          · rename_i r hr
            simp only [Option.some.injEq] at h
            subst h
            have ho' : f.offset = o := Nat.eq_of_beq_eq_true ho
            have hkl' : k.length = P.cellsOf f.type := Nat.eq_of_beq_eq_true hkl
            obtain ⟨hx, hs, hw⟩ := hm 0 f x rfl rfl
            have h1 := hrec _ _ _ _ hk hx hs hw
            simp only [List.length_append] at hl
            simp only [List.length_cons] at hxl
            have h2 := deepKF_fitsN hrec fs xs (o + k.length) r hr (by omega) (by omega) (fun i g y hg hy => hm (i + 1) g y hg hy)
            have e : cs.drop o = (cs.drop f.offset).take (P.cellsOf f.type) ++ cs.drop (o + k.length) := by
              rw [ho', ← hkl', ← List.drop_drop, List.take_append_drop]
            rw [e]
            simp only [List.map_cons, List.sum_cons]
            exact fitsN_append _ h1 h2
theorem fields_fitN {d n s : Nat} {Q : TypeId → Value → Nat → Prop} (ih : ∀ t ks cs x, deepK P d t = some ks → DataW.trod enc P w base spare held n t cs = some x → SizeOf.sizeOf x.1 ≤ s → (∀ n ∈ x.1.weights P t, n ≤ reachBytes) → fitsN Q ks cs (B x.1))
    {t : TypeId} {fs : Array Field} {ks : List DK} {cs : List Value} {xs : List (DataW H × List MemPlace)} (hu : P.underlying t = some (.struct fs)) (hks : deepKF P (deepK P d) 0 fs.toList = some ks) (hkl : ks.length = P.cellsOf t) (hl : cs.length = P.cellsOf t) (hlen : xs.length = fs.size)
    (hf : ∀ (i : Nat) (f : Field), fs[i]? = some f → DataW.trod enc P w base spare held n f.type ((cs.drop f.offset).take (P.cellsOf f.type)) = xs[i]?) (hs : ∀ x ∈ xs, SizeOf.sizeOf x.1 ≤ s) (hw : ∀ n ∈ (DataW.agg (xs.map (·.1))).weights P t, n ≤ reachBytes) : fitsN Q ks cs ((xs.map (fun x => B x.1)).sum) := by
  have := deepKF_fitsN (B := B) (rec := deepK P d) (n := n) (s := s) (Q := Q) ih (cs := cs) fs.toList xs 0 ks hks (by omega) (by simpa using hlen) (fun i f x hi hx => by
    have hi' : fs[i]? = some f := by simpa using hi
    refine ⟨by rw [hf i f hi', hx], hs _ (List.mem_of_getElem? hx), fun n hn => hw n ?_⟩
    simp only [DataW.weights, hu]
    exact weightsEach_mem (j := i) (t := f.type) (d := x.1) (by rw [List.getElem?_map, hi]; rfl) (by rw [List.getElem?_map, hx]; rfl) hn)
  simpa using this
theorem deepK_fitsN (hB : BulkOf B) {s : Nat} {Q : TypeId → Value → Nat → Prop} (hQ : RowQN enc P w base spare held B s Q) : ∀ (d : Nat) (n : Nat) (t : TypeId) (ks : List DK) (cs : List Value) (x : DataW H × List MemPlace), deepK P d t = some ks → DataW.trod enc P w base spare held n t cs = some x → SizeOf.sizeOf x.1 ≤ s → (∀ n ∈ x.1.weights P t, n ≤ reachBytes) → fitsN Q ks cs (B x.1)
  | 0, n, t, ks, cs, x, h, _, _, _ => by simp [deepK] at h
  | d + 1, n, t, ks, cs, x, h, hx, hs, hw => by
    simp only [deepK] at h
    split at h
    · rename_i hu
      simp only [Option.some.injEq] at h
      subst h
      obtain ⟨b, rfl, _⟩ := DataW.trod_bool hu hx
      exact ⟨_, [], 0, 0, rfl, by omega, ⟨⟨_, rfl⟩, fun s h => by cases h⟩, rfl⟩
    · rename_i k hu
      simp only [Option.some.injEq] at h
      subst h
      obtain ⟨b, rfl, _, hwf⟩ := DataW.trod_int hu hx
      exact ⟨_, [], 0, 0, rfl, by omega, ⟨⟨_, rfl, hwf⟩, fun s h => by cases h⟩, rfl⟩
    · rename_i hu
      simp only [Option.some.injEq] at h
      subst h
      obtain ⟨b, rfl, rfl, hsz⟩ := DataW.trod_string hu hx
      refine ⟨_, [], b.size, 0, rfl, ?_, ⟨⟨_, rfl, hsz⟩, fun s h => by cases h; exact Nat.le_refl _⟩, rfl⟩
      have := hB.str b.data.toList
      simpa using this
    · rename_i e hu
      simp only [Option.some.injEq] at h
      subst h
      have hv : ∃ v, cs = [v] := by
        rcases Go.Deep.open_slice hu hx with ⟨hcs, _⟩ | ⟨a, len, cap, m, n, D, Pl, hcs, _⟩ <;> exact ⟨_, hcs⟩
      obtain ⟨v, rfl⟩ := hv
      exact ⟨v, [], B x.1, 0, rfl, by omega, hQ n t v x ⟨e, hu⟩ hx hs hw, rfl⟩
    · rename_i fs hu
      split at h
      · cases h
      · rename_i ks' hks
        split at h
        · rename_i hkl
          simp only [Option.some.injEq] at h
          subst h
          have hkl' := Nat.eq_of_beq_eq_true hkl
          obtain ⟨xs, m, rfl, rfl, hl, hlen, hf⟩ := DataW.trod_struct hu hx
          have hsum := hB.agg (xs.map (·.1))
          rw [List.map_map] at hsum
          refine fitsN_more (fields_fitN (fun t ks cs x h hx hs hw => deepK_fitsN hB hQ d m t ks cs x h hx hs hw) hu hks hkl' hl hlen hf (fun x hx => ?_) hw) (Nat.le_trans (Nat.le_succ _) hsum)
          have h1 : x.1 ∈ xs.map (·.1) := List.mem_map.2 ⟨x, hx, rfl⟩
          have h2 := sizeOf_part h1
          have h3 : SizeOf.sizeOf (DataW.agg (xs.map (·.1))) = 1 + SizeOf.sizeOf (xs.map (·.1)) := by simp
          have hs' : SizeOf.sizeOf (DataW.agg (xs.map (·.1))) ≤ s := hs
          omega
        · cases h
    · cases h
theorem deepK_lessN (hB : BulkOf B) {Q : TypeId → Value → Nat → Prop} {d n : Nat} {t : TypeId} {ks : List DK} {cs : List Value} {x : DataW H × List MemPlace} (hst : (match P.underlying t with | some (.struct _) => true | _ => false) = true) (hk : deepK P (d + 1) t = some ks)
    (hx : DataW.trod enc P w base spare held n t cs = some x) (hw : ∀ n ∈ x.1.weights P t, n ≤ reachBytes) (hQ : ∀ s, s < SizeOf.sizeOf x.1 → RowQN enc P w base spare held B s Q) : ∃ k, k + 1 ≤ B x.1 ∧ fitsN Q ks cs k := by
  simp only [deepK] at hk
  split at hk
  · rename_i hu; rw [hu] at hst; cases hst
  · rename_i hu; rw [hu] at hst; cases hst
  · rename_i hu; rw [hu] at hst; cases hst
  · rename_i hu; rw [hu] at hst; cases hst
  · rename_i fs hu
    split at hk
    · cases hk
    · rename_i ks' hks
      split at hk
      · rename_i hkl
        simp only [Option.some.injEq] at hk
        subst hk
        have hkl' := Nat.eq_of_beq_eq_true hkl
        obtain ⟨xs, m, rfl, rfl, hl, hlen, hf⟩ := DataW.trod_struct hu hx
        have h3 : SizeOf.sizeOf (DataW.agg (xs.map (·.1))) = 1 + SizeOf.sizeOf (xs.map (·.1)) := by simp
        have hsum := hB.agg (xs.map (·.1))
        rw [List.map_map] at hsum
        refine ⟨_, hsum, fields_fitN (s := SizeOf.sizeOf (xs.map (·.1))) (fun t ks cs x h hx hs hw => deepK_fitsN hB (hQ _ (by show _ < SizeOf.sizeOf (DataW.agg (xs.map (·.1))); omega)) d m t ks cs x h hx hs hw) hu hks hkl' hl hlen hf (fun x hx => ?_) hw⟩
        exact Nat.le_of_lt (sizeOf_part (List.mem_map.2 ⟨x, hx, rfl⟩))
      · cases hk
  · cases hk
/-- a slice of deep data, opened, with its bulk -/
theorem gate_rowDN {α : Type} [DRep α] [Ok α] (hB : BulkOf B) (bz : α → Nat) {t e : TypeId} {v : Value} {fuel : Nat} {x : DataW H × List MemPlace} (ht : P.underlying t = some (.slice e)) (hc : P.cellsOf e = Flat.sz (DRep.H α)) (hby : Nat.blt 0 (P.bytesOf e) = true)
    (h : DataW.trod enc P w base spare held fuel t [v] = some x) (hwt : ∀ n ∈ x.1.weights P t, n ≤ reachBytes)
    (hel : ∀ (m : Nat) (cs : List Value) (y : DataW H × List MemPlace), DataW.trod enc P w base spare held m e cs = some y → SizeOf.sizeOf y.1 < SizeOf.sizeOf x.1 → (∀ n ∈ y.1.weights P e, n ≤ reachBytes) → ∃ (g : DRep.H α) (z : α), cs = Flat.cells g ∧ DRep.rel (Zof w) g z ∧ Ok.ok z ∧ bz z ≤ B y.1) :
    ∃ (l : List α) (A : Option Addr) (c : Nat), v = .slice A l.length c ∧ l.length ≤ c ∧ RdZ (Zof w) A l ∧ l.length * P.bytesOf e ≤ reachBytes ∧ (∀ y ∈ l, Ok.ok y) ∧ (l.map bz).sum ≤ B x.1 := by
  rcases Go.Deep.open_slice ht h with ⟨hcs, _⟩ | ⟨a, n0, c0, m, n, D, Pl, hcs, _, hlc, _, hm, hx, hel'⟩
  · injection hcs with hcs _
    exact ⟨[], none, 0, hcs, Nat.zero_le _, RdZ.nil _, by simp, by simp, by simp⟩
  · injection hcs with hcs _
    subst hcs
    have hlm : n0 ≤ m := by rw [hm]; split <;> omega
    have hd : x.1 = .slice ((List.range n0).map D) ((List.range (m - n0)).map fun j => D (n0 + j)) := by rw [hx]
    obtain ⟨q, hq, hp⟩ := exists_list (α := DRep.H α × α) (p := fun i y => w.cells? base (a.add (i * P.cellsOf e)) (P.cellsOf e) = some (Flat.cells y.1) ∧ DRep.rel (Zof w) y.1 y.2 ∧ Ok.ok y.2 ∧ bz y.2 ≤ B (D i)) n0 (fun i hi => by
      obtain ⟨cs', h1, h2⟩ := hel' i (by omega)
      have hmem : D i ∈ (List.range n0).map D := List.mem_map.2 ⟨i, List.mem_range.2 hi, rfl⟩
      obtain ⟨g, z, rfl, hr, ho⟩ := hel n cs' _ h2 (by
        rw [hd]
        have := sizeOf_part hmem
        simp only [DataW.slice.sizeOf_spec]
        show SizeOf.sizeOf (D i) < _
        omega) (fun k hk => hwt k (by
          rw [hd]
          simp only [DataW.weights, ht, List.mem_cons, List.mem_append]
          exact .inr (.inl (weightsAll_mem hmem k hk))))
      exact ⟨(g, z), h1, hr, ho⟩)
    have hsum : ((q.map (·.2)).map bz).sum ≤ (((List.range n0).map D).map B).sum := by
      have key : ∀ (k : Nat) (r : List (DRep.H α × α)) (i : Nat), r.length = k → (∀ j y, r[j]? = some y → bz y.2 ≤ B (D (i + j))) → ((r.map (·.2)).map bz).sum ≤ (((List.range' i k).map D).map B).sum := by
        intro k
        induction k with
        | zero => intro r i hr _; obtain rfl := List.length_eq_zero_iff.1 hr; simp
        | succ k ih =>
          intro r i hr hj
          match r, hr with
          | y :: r, hr =>
            have h1 := hj 0 y rfl
            have h2 := ih r (i + 1) (by simpa using hr) (fun j z hz => by
              have := hj (j + 1) z hz
              rw [show i + 1 + j = i + (j + 1) by omega]; exact this)
            simp only [List.range'_succ, List.map_cons, List.sum_cons]
            simp only [Nat.add_zero] at h1
            omega
      have := key n0 q 0 hq (fun j y hy => by rw [Nat.zero_add]; exact (hp j y hy).2.2.2)
      rwa [← List.range_eq_range'] at this
    have hBx := hB.slice ((List.range n0).map D) ((List.range (m - n0)).map fun j => D (n0 + j))
    rw [← hd] at hBx
    refine ⟨q.map (·.2), some a, c0, by simp [hq], by simpa [hq] using hlc, ⟨q.map (·.1), ⟨by simp, fun i y z hy hz => ?_⟩, RdL.zof ⟨?_, fun hpos => ?_, fun b o ha i j hi hj => ?_⟩⟩, ?_, fun y hy => ?_, by omega⟩
    · rw [List.getElem?_map] at hy hz
      obtain ⟨y1, h1, rfl⟩ := Option.map_eq_some_iff.1 hy
      obtain ⟨y2, h2, rfl⟩ := Option.map_eq_some_iff.1 hz
      rw [h1] at h2
      obtain rfl := Option.some.inj h2
      exact (hp i _ h1).2.1
    · have hb : 0 < P.bytesOf e := by simpa [Nat.blt_eq] using hby
      have h1 := hwt ((n0 + (m - n0)) * P.bytesOf e) (by rw [hd]; simp [DataW.weights, ht])
      have h2 := reachBytes_lt
      have h3 : n0 + (m - n0) ≤ (n0 + (m - n0)) * P.bytesOf e := Nat.le_mul_of_pos_right _ hb
      simp only [List.length_map, hq]
      omega
    · obtain ⟨b, o, sp⟩ := a
      have hpos' : 0 < q.length := by simpa using hpos
      have hx0 : q[0]? = some q[0] := List.getElem?_eq_getElem hpos'
      obtain ⟨_, hlen, hget⟩ := World.cells?_some (hp 0 _ hx0).1
      have h0 := hget 0 (by rw [hc]; exact Flat.pos)
      have hfl : 0 < (Flat.cells q[0].1).length := by rw [Flat.len]; exact Flat.pos
      rw [List.getElem?_eq_getElem hfl] at h0
      have hsp : sp = none := by
        have := World.cell?_spot h0
        simpa [Addr.add] using this
      subst hsp
      exact ⟨b, o, rfl⟩
    · injection ha with ha
      subst ha
      have hi' : i < q.length := by simpa using hi
      have hx0 : q[i]? = some q[i] := List.getElem?_eq_getElem hi'
      obtain ⟨_, hlen, hget⟩ := World.cells?_some (hp i _ hx0).1
      have h0 := hget j (by rw [hc]; exact hj)
      rw [hc, WideShapes.add_plain, WideShapes.add_plain] at h0
      rw [h0]
      have hfl : j < (Flat.cells q[i].1).length := by rw [Flat.len]; exact hj
      simp [flatF, hi', hfl]
    · have h1 := hwt ((n0 + (m - n0)) * P.bytesOf e) (by rw [hd]; simp [DataW.weights, ht])
      have h3 : n0 * P.bytesOf e ≤ (n0 + (m - n0)) * P.bytesOf e := Nat.mul_le_mul_right _ (by omega)
      simp only [List.length_map, hq]
      omega
    · obtain ⟨z, hz, rfl⟩ := List.mem_map.1 hy
      obtain ⟨i, hi⟩ := List.mem_iff_getElem?.1 hz
      exact (hp i z hi).2.2.1
end
end Go.Proofs.Ytcjphfmmmlgcbaa.GV
