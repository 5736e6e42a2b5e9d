/- The walker's core, 36th part: still more short words. Written for this work. -/
import Derived.Test.YtcjphfmmmlgcbaaGv35
namespace Go.Proofs.Ytcjphfmmmlgcbaa.GV
open Go Go.RowKit
set_option linter.unusedVariables false
set_option linter.unusedSimpArgs false
abbrev OA := Option Addr
abbrev ld (b o : Nat) (v : Value) : Did := .loaded ⟨b, o, none⟩ v
abbrev bk (b : Nat) (cs : Array Value) (t : TypeId) : Own := Own.blk b (.cells cs t (0, 0))
abbrev ro {α : Type} [Flat α] (A : Option Addr) (c T : Nat) (l : List α) : Own := Own.of (.slice A l.length c) T l
def pickL : List Nat → List Own → Option (List Own)
  | [], _ => some []
  | i :: is, L => match L[i]? with | none => none | some r => match pickL is L with | none => none | some l => some (r :: l)
def nodupB : List Nat → Bool
  | [] => true
  | i :: is => is.all (fun j => !Nat.beq i j) && nodupB is
theorem pickL_mem : ∀ {is : List Nat} {L L' : List Own}, pickL is L = some L' → ∀ s ∈ L', ∃ j ∈ is, L[j]? = some s
  | [], L, L', e, s, hs => by cases e; cases hs
  | i :: is, L, L', e, s, hs => by
    simp only [pickL] at e
    split at e
    · cases e
    · rename_i r hr
      split at e
      · cases e
      · rename_i l hl
        cases e
        rcases List.mem_cons.1 hs with rfl | hs
        · exact ⟨i, by simp, hr⟩
        · obtain ⟨j, hj, h⟩ := pickL_mem hl s hs
          exact ⟨j, List.mem_cons_of_mem _ hj, h⟩
theorem pickL_apart {R : Own → Own → Prop} (hR : ∀ x y, R x y → R y x) {L : List Own} (hL : L.Pairwise R) : ∀ {is : List Nat} {L' : List Own}, pickL is L = some L' → nodupB is = true → L'.Pairwise R
  | [], L', e, _ => by cases e; exact List.Pairwise.nil
  | i :: is, L', e, nd => by
    simp only [pickL] at e
    simp only [nodupB, Bool.and_eq_true, List.all_eq_true] at nd
    split at e
    · cases e
    · rename_i r hr
      split at e
      · cases e
      · rename_i l hl
        cases e
        refine List.Pairwise.cons (fun s hs => ?_) (pickL_apart hR hL hl nd.2)
        obtain ⟨j, hj, h⟩ := pickL_mem hl s hs
        have hne : i ≠ j := fun e => by have := nd.1 j hj; rw [e] at this; simp [Nat.beq_refl] at this
        obtain ⟨hi, rfl⟩ := List.getElem?_eq_some_iff.1 hr
        obtain ⟨hj', rfl⟩ := List.getElem?_eq_some_iff.1 h
        rw [List.pairwise_iff_getElem] at hL
        rcases Nat.lt_or_gt_of_ne hne with hlt | hlt
        · exact hL i j hi hj' hlt
        · exact hR _ _ (hL j i hj' hi hlt)
/-- some of what is owned, in an order -/
theorem St.p {w0 w : World} {L L' : List Own} (h : St w0 w L) (is : List Nat) (e : pickL is L = some L') (nd : nodupB is = true := by rfl) : St w0 w L' :=
  ⟨h.below, fun r hr => by obtain ⟨j, _, hj⟩ := pickL_mem e r hr; exact h.holds r (List.mem_of_getElem? hj), fun r hr => by obtain ⟨j, _, hj⟩ := pickL_mem e r hr; exact h.base r (List.mem_of_getElem? hj), pickL_apart (fun x y hxy b hb hb' => hxy b hb' hb) h.apart e nd⟩
section
variable {P : Program} {n : Nat} {Q : Exit → Act → World → Prop} [Dfs]
theorem kp {c : Code} {e e' : Env} {w : World} (k : WE P n c Q e' w) (h : e'.map (fun x => e.get x.1) = e'.map (fun x => some x.2) := by kernel_rfl) : WE P n c Q e w := we_keep (ea (h := h)) k
theorem wt {c : Operand} {x y : Code} {e : Env} {w : World} (h : WE P n x Q e w) (hc : e.ev c = some (.bool true) := by kernel_rfl) : WE P n (.cond c x y) Q e w := we_true hc h
theorem wf {c : Operand} {x y : Code} {e : Env} {w : World} (h : WE P n y Q e w) (hc : e.ev c = some (.bool false) := by kernel_rfl) : WE P n (.cond c x y) Q e w := we_false hc h
theorem rq {σ ρ : Type} {A : σ → Act → World → Prop} {B : ρ → Exit → Act → World → Prop} {r : ρ} {e : Env} {w : World} {Q0 : Exit → Act → World → Prop} (hQ : ∀ x a w, Outs A B (.inr r) x a w → Q0 x a w) (h : ∀ a, Frm n a e → B r .ret a w) (hk : ∀ a w, Q0 .ret a w → Q .ret a w := by exact fun _ _ h => h) : WE P n .ret Q e w := we_ret fun a hF => hk _ _ (hQ _ _ _ (Outs.out nofun (h a hF)))
end
end Go.Proofs.Ytcjphfmmmlgcbaa.GV
