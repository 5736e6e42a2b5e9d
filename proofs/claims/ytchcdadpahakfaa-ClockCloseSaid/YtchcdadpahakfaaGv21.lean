/- The walker's core, 21st part: rows of rows. Written for this work. -/
import Derived.Test.YtchcdadpahakfaaGv20
namespace Go.Proofs.Ytchcdadpahakfaa.GV
open Go Go.RowKit
set_option linter.unusedVariables false
set_option linter.unusedSimpArgs false
/-- many resources as one -/
def Own.all (R : List Own) : Own :=
  ⟨R.flatMap (·.foot), fun h => (∀ r ∈ R, r.holds h) ∧ R.Pairwise (fun (r s : Own) => ∀ b : Nat, b ∈ r.foot → b ∉ s.foot), fun h h' k hh => ⟨fun r hr => r.loc h h' (fun b hb => k b (List.mem_flatMap.2 ⟨r, hr, hb⟩)) (hh.1 r hr), hh.2⟩⟩
theorem St.gather {w0 w : World} {R L : List Own} (h : St w0 w (R ++ L)) : St w0 w (Own.all R :: L) := by
  have ha := List.pairwise_append.1 h.apart
  refine ⟨h.below, fun r hr => ?_, fun r hr b hb => ?_, List.Pairwise.cons (fun s hs b hb => ?_) ha.2.1⟩
  · rcases List.mem_cons.1 hr with rfl | hr
    · exact ⟨fun r hr => h.holds r (List.mem_append_left _ hr), ha.1⟩
    · exact h.holds r (List.mem_append_right _ hr)
  · rcases List.mem_cons.1 hr with rfl | hr
    · obtain ⟨r, hr, hb⟩ := List.mem_flatMap.1 hb
      exact h.base r (List.mem_append_left _ hr) b hb
    · exact h.base r (List.mem_append_right _ hr) b hb
  · obtain ⟨r, hr, hb⟩ := List.mem_flatMap.1 hb
    exact ha.2.2 r hr s hs b hb
theorem St.spread {w0 w : World} {R L : List Own} (h : St w0 w (Own.all R :: L)) : St w0 w (R ++ L) := by
  have ha := List.pairwise_cons.1 h.apart
  have h0 := h.holds _ (List.mem_cons_self ..)
  refine ⟨h.below, fun r hr => ?_, fun r hr b hb => ?_, List.pairwise_append.2 ⟨h0.2, ha.2, fun r hr s hs b hb => ha.1 s hs b (List.mem_flatMap.2 ⟨r, hr, hb⟩)⟩⟩
  · rcases List.mem_append.1 hr with hr | hr
    · exact h0.1 r hr
    · exact h.holds r (List.mem_cons_of_mem _ hr)
  · rcases List.mem_append.1 hr with hr | hr
    · exact h.base _ (List.mem_cons_self ..) b (List.mem_flatMap.2 ⟨r, hr, hb⟩)
    · exact h.base r (List.mem_cons_of_mem _ hr) b hb
/-- one goes in behind them -/
theorem St.allAdd {w0 w : World} {r : Own} {R L : List Own} (h : St w0 w (r :: Own.all R :: L)) : St w0 w (Own.all (R ++ [r]) :: L) := by
  have h1 : St w0 w (Own.all R :: r :: L) := h.perm (List.Perm.swap _ _ _)
  have h2 := h1.spread
  rw [show R ++ r :: L = (R ++ [r]) ++ L by simp] at h2
  exact h2.gather
/-- the head of a row, as it lies in a row of rows -/
structure Hdr where
  A : Option Addr
  n : Nat
  c : Nat
def Hdr.val (x : Hdr) : Value := .slice x.A x.n x.c
instance : Flat Hdr := ⟨1, fun x => [.slice x.A x.n x.c], fun _ => rfl, fun _ => rfl, by decide⟩
/-- rows that are read, by their heads -/
structure NestL {α : Type} [Flat α] (w : World) (hs : List Hdr) (ls : List (List α)) : Prop where
  len : hs.length = ls.length
  each : ∀ (i : Nat) (x : Hdr) (l : List α), hs[i]? = some x → ls[i]? = some l → x.n = l.length ∧ RdL w x.A l ∧ l.length ≤ x.c
theorem NestL.get {α : Type} [Flat α] {w : World} {hs : List Hdr} {ls : List (List α)} (h : NestL w hs ls) {k : Nat} {l : List α} (hx : ls[k]? = some l) : ∃ A c, hs[k]? = some ⟨A, l.length, c⟩ ∧ RdL w A l ∧ l.length ≤ c := by
  have hk := lt_of_get hx
  have hy : hs[k]? = some (hs[k]'(by rw [h.len]; exact hk)) := List.getElem?_eq_getElem _
  obtain ⟨h1, h2, h3⟩ := h.each k _ l hy hx
  generalize hs[k]'(by rw [h.len]; exact hk) = x at hy h1 h2 h3
  obtain ⟨A, n, c⟩ := x
  simp only at h1 h2 h3
  subst h1
  exact ⟨A, c, hy, h2, h3⟩
/-- rows that are owned, by their heads -/
def famL {α : Type} [Flat α] (e : Nat) (hs : List Hdr) (ls : List (List α)) : List Own := List.zipWith (fun (x : Hdr) (l : List α) => Own.of x.val e l) hs ls
abbrev Own.fam {α : Type} [Flat α] (e : Nat) (hs : List Hdr) (ls : List (List α)) : Own := Own.all (famL e hs ls)
theorem famL_get {α : Type} [Flat α] {e : Nat} {hs : List Hdr} {ls : List (List α)} {i : Nat} {x : Hdr} {l : List α} (hx : hs[i]? = some x) (hl : ls[i]? = some l) : (famL e hs ls)[i]? = some (Own.of x.val e l) := by
  simp [famL, List.getElem?_zipWith, hx, hl]
theorem famL_add {α : Type} [Flat α] (e : Nat) {hs : List Hdr} {ls : List (List α)} (h : hs.length = ls.length) (x : Hdr) (l : List α) : famL e (hs ++ [x]) (ls ++ [l]) = famL e hs ls ++ [Own.of x.val e l] := by
  unfold famL
  rw [List.zipWith_append h]
  rfl
/-- none yet -/
theorem St.famNil {α : Type} [Flat α] {w0 w : World} {L : List Own} (h : St w0 w L) (e : Nat) : St w0 w (Own.fam (α := α) e [] [] :: L) := St.gather (R := []) h
theorem St.famAdd {α : Type} [Flat α] {w0 w : World} {L : List Own} {A : Option Addr} {c e : Nat} {l : List α} {hs : List Hdr} {ls : List (List α)} (h : St w0 w (Own.of (.slice A l.length c) e l :: Own.fam e hs ls :: L)) (hl : hs.length = ls.length) :
    St w0 w (Own.fam e (hs ++ [⟨A, l.length, c⟩]) (ls ++ [l]) :: L) := by
  unfold Own.fam
  rw [famL_add e hl]
  exact St.allAdd h
/-- how a family reads -/
theorem St.famAt {α : Type} [Flat α] {w0 w : World} {L : List Own} (h : St w0 w L) (m : Nat) {e : Nat} {hs : List Hdr} {ls : List (List α)} (hm : L[m]? = some (Own.fam e hs ls)) (hl : hs.length = ls.length) : NestL w hs ls := by
  refine ⟨hl, fun i x l hx hy => ?_⟩
  have h1 := (h.bring m hm).spread
  have hi : (famL e hs ls)[i]? = some (Own.of x.val e l) := famL_get hx hy
  have h2 : (famL e hs ls ++ L.eraseIdx m)[i]? = some (Own.of x.val e l) := by rw [List.getElem?_append_left (lt_of_get hi)]; exact hi
  have hR := h1.rdAt i h2
  have hn := h1.lenAt i h2
  have hh := h1.holds _ (List.mem_of_getElem? h2)
  refine ⟨hn, hR, ?_⟩
  obtain ⟨_, h3 | ⟨g, cap, cur, hv, _, hc, _⟩⟩ := hh
  · rw [h3.2]; exact Nat.zero_le _
  · unfold Hdr.val at hv
    injection hv with _ _ hcap
    omega
end Go.Proofs.Ytchcdadpahakfaa.GV
