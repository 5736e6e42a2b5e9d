/- The walker's core, sixteenth part: a row's arguments opened, their sizes known. Written for this work. -/
import Derived.Test.YtchcdadpahakfaaGv15
namespace Go.Proofs.Ytchcdadpahakfaa.GV
open Go Go.RowKit Go.ChangeShapes Go.WideShapes
set_option linter.unusedVariables false
set_option linter.unusedSimpArgs false
/-- what every value of a type is -/
class Ok (α : Type) where
  ok : α → Prop
abbrev In64 (n : Int) : Prop := -9223372036854775808 ≤ n ∧ n ≤ 9223372036854775807
abbrev Small (s : ByteArray) : Prop := s.size ≤ 9223372036854775807
instance : Ok Int := ⟨In64⟩
instance : Ok Bool := ⟨fun _ => True⟩
instance : Ok ByteArray := ⟨Small⟩
def CK.fits2 : CK → Value → Prop
  | .int k, v => ∃ n, v = .int k n ∧ (Lit.int k n).wf = true
  | .bool, v => ∃ b, v = .bool b
  | .str, v => ∃ s, v = .string s ∧ s.size ≤ maxLen
def fitsAll2 : List CK → List Value → Prop
  | [], vs => vs = []
  | k :: ks, vs => ∃ v r, vs = v :: r ∧ k.fits2 v ∧ fitsAll2 ks r
theorem fitsAll2_append : ∀ (ks : List CK) {ms : List CK} {vs ws : List Value}, fitsAll2 ks vs → fitsAll2 ms ws → fitsAll2 (ks ++ ms) (vs ++ ws)
  | [], ms, vs, ws, h, k => by rw [show vs = [] from h]; exact k
  | _ :: ks, ms, vs, ws, h, k => by obtain ⟨v, r, rfl, hv, h⟩ := h; exact ⟨v, r ++ ws, rfl, hv, fitsAll2_append ks h k⟩
theorem In64.of_wf {n : Int} (h : (Lit.int .i64 n).wf = true) : In64 n := by
  simp only [Lit.wf, Bool.and_eq_true, decide_eq_true_eq] at h
  have h1 : IntKind.i64.min = -9223372036854775808 := by decide
  have h2 : IntKind.i64.max = 9223372036854775807 := by decide
  rw [h1, h2] at h
  exact h
section
variable {H : Type} {enc : TypeId × Value → H} {P : Program} {w : World} {base : Nat} {spare : Nat → Bool} {held : Bool}
theorem flatKF_fits2 {rec : TypeId → Option (List CK)} {n : Nat} (hrec : ∀ t ks cs x, rec t = some ks → DataW.trod enc P w base spare held n t cs = some x → fitsAll2 ks cs) {cs : List Value} :
    ∀ (fs : List Field) (o : Nat) (ks : List CK), flatKF P rec o fs = some ks → cs.length = o + ks.length →
      (∀ f ∈ fs, ∃ x, DataW.trod enc P w base spare held n f.type ((cs.drop f.offset).take (P.cellsOf f.type)) = some x) → fitsAll2 ks (cs.drop o)
  | [], o, ks, h, hl, _ => by
    simp only [flatKF, Option.some.injEq] at h
    subst h
    show cs.drop o = []
    exact List.drop_eq_nil_of_le (by simp at hl; omega)
  | f :: fs, o, ks, h, hl, hm => by
    simp only [flatKF] at h
    split at h
    · cases h
    · rename_i ho
      split at h
      · cases h
      · rename_i k hk
        split at h
        · cases h
        · rename_i hkl
          split at h
          · cases h
          · rename_i r hr
            simp only [Option.some.injEq] at h
            subst h
            have ho' : f.offset = o := Nat.eq_of_beq_eq_true ho
            have hkl' : k.length = P.cellsOf f.type := Nat.eq_of_beq_eq_true hkl
            obtain ⟨x, hx⟩ := hm f (by simp)
            have h1 := hrec _ _ _ _ hk hx
            simp only [List.length_append] at hl
            have h2 := flatKF_fits2 hrec fs (o + k.length) r hr (by omega) (fun g hg => hm g (List.mem_cons_of_mem _ hg))
            have e : cs.drop o = (cs.drop f.offset).take (P.cellsOf f.type) ++ cs.drop (o + k.length) := by
              rw [ho', ← hkl', ← List.drop_drop, List.take_append_drop]
            rw [e]
            exact fitsAll2_append _ h1 h2
theorem flatK_fits2 : ∀ (d : Nat) (n : Nat) (t : TypeId) (ks : List CK) (cs : List Value) (x : DataW H × List MemPlace), flatK P d t = some ks → DataW.trod enc P w base spare held n t cs = some x → fitsAll2 ks cs
  | 0, n, t, ks, cs, x, h, _ => by simp [flatK] at h
  | d + 1, n, t, ks, cs, x, h, hx => by
    simp only [flatK] at h
    split at h
    · rename_i hu
      simp only [Option.some.injEq] at h
      subst h
      obtain ⟨b, rfl, _⟩ := DataW.trod_bool hu hx
      exact ⟨_, [], rfl, ⟨_, rfl⟩, rfl⟩
    · rename_i k hu
      simp only [Option.some.injEq] at h
      subst h
      obtain ⟨b, rfl, _, hwf⟩ := DataW.trod_int hu hx
      exact ⟨_, [], rfl, ⟨_, rfl, hwf⟩, rfl⟩
    · rename_i hu
      simp only [Option.some.injEq] at h
      subst h
      obtain ⟨b, rfl, _, hsz⟩ := DataW.trod_string hu hx
      exact ⟨_, [], rfl, ⟨_, rfl, hsz⟩, rfl⟩
    · rename_i fs hu
      split at h
      · cases h
      · rename_i ks' hks
        split at h
        · cases h
        · rename_i hkl
          simp only [Option.some.injEq] at h
          subst h
          have hkl' := Nat.eq_of_beq_eq_true hkl
          obtain ⟨xs, m, rfl, _, hl, hlen, hf⟩ := DataW.trod_struct hu hx
          have hcl : cs.length = 0 + ks'.length := by rw [hl, hkl']; omega
          have := flatKF_fits2 (rec := flatK P d) (n := m) (fun t ks cs x h hx => flatK_fits2 d m t ks cs x h hx) fs.toList 0 ks' hks hcl (fun f hf' => by
            obtain ⟨i, hi⟩ := List.mem_iff_getElem?.1 hf'
            have hi' : fs[i]? = some f := by simpa using hi
            have hlt : i < xs.length := by rw [hlen]; exact (Array.getElem?_eq_some_iff.1 hi').1
            exact ⟨xs[i], by rw [hf i f hi', List.getElem?_eq_getElem hlt]⟩)
          simpa using this
    · cases h
/-- a slice of plain data, opened -/
theorem gate_row2 {α : Type} [Flat α] [Ok α] {t e : TypeId} {v : Value} {d : DataW H} {ps : List MemPlace} (ht : P.underlying t = some (.slice e)) (ks : List CK) (hk : flatK P 8 e = some ks) (hof : ∀ cs, fitsAll2 ks cs → ∃ y : α, cs = Flat.cells y ∧ Ok.ok y) (hc : P.cellsOf e = Flat.sz α) (hby : Nat.blt 0 (P.bytesOf e) = true)
    (h : DataW.Trod enc P w base spare held t v d ps) (hwt : ∀ n ∈ d.weights P t, n ≤ reachBytes) (hv : ∃ a n c, v = .slice a n c) : ∃ (l : List α) (A : Option Addr) (c : Nat), v = .slice A l.length c ∧ RdL w A l ∧ l.length ≤ c ∧ ∀ y ∈ l, Ok.ok y := by
  obtain ⟨a0, n0, c0, rfl⟩ := hv
  obtain ⟨fuel, h⟩ := h
  rcases Go.Deep.open_slice ht h with ⟨hcs, _⟩ | ⟨a, len, cap, m, n, D, Pl, hcs, _, hlc, _, hm, hx, hel⟩
  · have : (Value.slice a0 n0 c0).cells.toList = [.slice a0 n0 c0] := rfl
    rw [this] at hcs
    injection hcs with hcs _
    injection hcs with h1 h2 h3
    subst h1; subst h2; subst h3
    exact ⟨[], none, 0, rfl, RdL.nil w, Nat.zero_le _, by simp⟩
  · have : (Value.slice a0 n0 c0).cells.toList = [.slice a0 n0 c0] := rfl
    rw [this] at hcs
    injection hcs with hcs _
    injection hcs with h1 h2 h3
    subst h1; subst h2; subst h3
    have hlm : n0 ≤ m := by rw [hm]; split <;> omega
    obtain ⟨l, hl, hp⟩ := exists_list (α := α) (p := fun i y => w.cells? base (a.add (i * P.cellsOf e)) (P.cellsOf e) = some (Flat.cells y) ∧ Ok.ok y) n0 (fun i hi => by
      obtain ⟨cs', h1, h2⟩ := hel i (by omega)
      obtain ⟨y, rfl, hy⟩ := hof _ (flatK_fits2 8 n e ks cs' _ hk h2)
      exact ⟨y, h1, hy⟩)
    subst hl
    refine ⟨l, some a, c0, rfl, ⟨?_, fun hpos => ?_, fun b o ha i j hi hj => ?_⟩, hlc, fun y hy => by obtain ⟨i, hi⟩ := List.mem_iff_getElem?.1 hy; exact (hp i y hi).2⟩
    · have hd : d = .slice ((List.range l.length).map D) ((List.range (m - l.length)).map fun j => D (l.length + j)) := (Prod.mk.inj hx).1
      have hb : 0 < P.bytesOf e := by simpa [Nat.blt_eq] using hby
      have h1 := hwt ((l.length + (m - l.length)) * P.bytesOf e) (by rw [hd]; simp [DataW.weights, ht])
      have h2 := reachBytes_lt
      have h3 : l.length + (m - l.length) ≤ (l.length + (m - l.length)) * P.bytesOf e := Nat.le_mul_of_pos_right _ hb
      omega
    · obtain ⟨b, o, sp⟩ := a
      have hx0 : l[0]? = some l[0] := List.getElem?_eq_getElem hpos
      obtain ⟨_, hlen, hget⟩ := World.cells?_some (hp 0 _ hx0).1
      have h0 := hget 0 (by rw [hc]; exact Flat.pos)
      have hfl : 0 < (Flat.cells l[0]).length := by rw [Flat.len]; exact Flat.pos
      rw [List.getElem?_eq_getElem hfl] at h0
      have hsp : sp = none := by
        have := World.cell?_spot h0
        simpa [Addr.add] using this
      subst hsp
      exact ⟨b, o, rfl⟩
    · injection ha with ha
      subst ha
      have hx0 : l[i]? = some l[i] := List.getElem?_eq_getElem hi
      obtain ⟨_, hlen, hget⟩ := World.cells?_some (hp i _ hx0).1
      have h0 := hget j (by rw [hc]; exact hj)
      rw [hc, WideShapes.add_plain, WideShapes.add_plain] at h0
      rw [h0]
      have hfl : j < (Flat.cells l[i]).length := by rw [Flat.len]; exact hj
      simp [flatF, hi, hfl]
theorem gate_int {t : TypeId} {n : Int} {d : DataW H} {ps : List MemPlace} (ht : P.underlying t = some (.int .i64)) (h : DataW.Trod enc P w base spare held t (.int .i64 n) d ps) : In64 n := by
  obtain ⟨fuel, h⟩ := h
  obtain ⟨b, hb, _, hwf⟩ := DataW.trod_int ht h
  have : (Value.int .i64 n).cells.toList = [.int .i64 n] := rfl
  rw [this] at hb
  injection hb with hb _
  injection hb with _ hb
  subst hb
  exact In64.of_wf hwf
end
theorem Int.of_fits2 (cs : List Value) (h : fitsAll2 [.int .i64] cs) : ∃ y : Int, cs = Flat.cells y ∧ Ok.ok y := by
  obtain ⟨_, _, rfl, ⟨a, rfl, h⟩, rfl⟩ := h; exact ⟨a, rfl, In64.of_wf h⟩
theorem Str.of_fits2 (cs : List Value) (h : fitsAll2 [.str] cs) : ∃ y : ByteArray, cs = Flat.cells y ∧ Ok.ok y := by
  obtain ⟨_, _, rfl, ⟨a, rfl, h⟩, rfl⟩ := h; exact ⟨a, rfl, h⟩
theorem Bl.of_fits2 (cs : List Value) (h : fitsAll2 [.bool] cs) : ∃ y : Bool, cs = Flat.cells y ∧ Ok.ok y := by
  obtain ⟨_, _, rfl, ⟨a, rfl⟩, rfl⟩ := h; exact ⟨a, rfl, trivial⟩
end Go.Proofs.Ytchcdadpahakfaa.GV
