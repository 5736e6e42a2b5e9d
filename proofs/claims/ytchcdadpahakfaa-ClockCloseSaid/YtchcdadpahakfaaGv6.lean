/- The walker's core, sixth part: regions whose effects may come in several orders. Written for this work. -/
import Derived.Test.YtchcdadpahakfaaGv5
namespace Go.Proofs.Ytchcdadpahakfaa.GV
open Go Go.RowKit
set_option linter.unusedVariables false
set_option linter.unusedSimpArgs false

def RS (S : List Addr) (w w' : World) : Prop := ∀ a ∈ S, w'.cell? a = w.cell? a
theorem RS.refl (S : List Addr) (w : World) : RS S w w := fun _ _ => rfl
theorem RS.trans {S : List Addr} {a b c : World} (h : RS S a b) (k : RS S b c) : RS S a c := fun x hx => (k x hx).trans (h x hx)
inductive Ord where
  | fin
  | vals (l : List Nat) (r : Ord)
  | alt (i k : Nat) (r more : Ord)
  | nomore
def Ord.ids : Ord → List Nat
  | .alt i _ _ more => i :: more.ids
  | _ => []
def Ord.depth : Ord → Nat
  | .fin => 0
  | .vals l r => l.length + r.depth
  | .alt _ _ r more => max (r.depth + 1) more.depth
  | .nomore => 0
def canonVals (ops : Array Oper) : List Nat → Array Bool → Bool
  | [], _ => true
  | i :: l, listed => (Region.ready .any ops listed).contains i && Region.free .any ops listed i && canonVals ops l (listed.setIfInBounds i true)
def setAll (listed : Array Bool) : List Nat → Array Bool
  | [] => listed
  | i :: l => setAll (listed.setIfInBounds i true) l
def canonO (ops : Array Oper) : Bool → Ord → Array Bool → Bool
  | top, .fin, listed => top && (Region.ready .any ops listed).isEmpty
  | top, .vals l r, listed => top && canonVals ops l listed && canonO ops true r (setAll listed l)
  | top, .alt i k r more, listed => (!top || Region.ready .any ops listed == Ord.ids (.alt i k r more)) && canonO ops true r (listed.setIfInBounds i true) && canonO ops false more listed
  | top, .nomore, _ => !top
section
variable (P : Program) (ops : Array Oper) (S : List Addr)
def SteadyR (i : Nat) (v : Value) (a : Act) (w : World) : Prop :=
  ∃ o, ops[i]? = some o ∧ ((Region.wanted o (yielded ops a.tmps) = true ∧ ∀ w', RS S w w' → ((execOp a.eval o).run P w' = .ok (.value v) w')) ∨
    (Region.wanted o (yielded ops a.tmps) = false ∧ v = undef))
end
section
variable {P : Program} {ops : Array Oper} {S : List Addr} {Q : Exit → Act → World → Prop}
theorem SteadyR.wpOp {i : Nat} {v : Value} {a : Act} {w : World} (h : SteadyR P ops S i v a w) {K : Act → World → Prop} (k : K (a.put (dstOf ops i) v) w) : Go.wpOp P ops Q i K a w := by
  obtain ⟨o, ho, h⟩ := h
  unfold Go.wpOp
  simp only [dstOf, ho, Option.bind_some] at k
  simp only [ho]
  rcases h with ⟨hw, h⟩ | ⟨hw, rfl⟩
  · simp only [hw, if_true]
    refine .inl ?_
    unfold Oper.wp; rw [h w (RS.refl S w)]; exact k
  · simp only [hw, Bool.false_eq_true, if_false]; exact k
theorem SteadyR.of_same {i : Nat} {o : Oper} {v : Value} {a a' : Act} {w : World} (hi : ops[i]? = some o) (h : SteadyR P ops S i v a w) (he : execOp a'.eval o = execOp a.eval o)
    (hw : Region.wanted o (yielded ops a'.tmps) = Region.wanted o (yielded ops a.tmps)) : SteadyR P ops S i v a' w := by
  obtain ⟨o', ho', h⟩ := h
  obtain rfl : o' = o := by rw [hi] at ho'; exact (Option.some.inj ho').symm
  exact ⟨o', hi, by rw [he, hw]; exact h⟩
theorem SteadyR.ext {i : Nat} {v : Value} {a : Act} {w w' : World} (h : SteadyR P ops S i v a w) (k : RS S w w') : SteadyR P ops S i v a w' := by
  obtain ⟨o, ho, h⟩ := h
  refine ⟨o, ho, ?_⟩
  rcases h with ⟨hw, h⟩ | h
  · exact .inl ⟨hw, fun w2 h2 => h w2 (k.trans h2)⟩
  · exact .inr h
def canonAllO (ops : Array Oper) (o : Ord) : Bool := Region.noSelect ops && canonO ops true o (Array.replicate ops.size false) && Nat.ble o.depth ops.size
end
section
variable {P : Program} {n : Nat} {ops : Array Oper} {S : List Addr} {Q : Exit → Act → World → Prop} [Dfs]
def didAddrs : List Did → List Addr
  | [] => []
  | .loaded a _ :: l => a :: didAddrs l
  | _ :: l => didAddrs l
end
section
variable {P : Program} {n : Nat} {ops : Array Oper} {S : List Addr} {Q : Exit → Act → World → Prop}
theorem Loads.rs : ∀ {l : List Did} {w w' : World}, Loads l w → (∀ a ∈ didAddrs l, a ∈ S) → RS S w w' → Loads l w'
  | [], _, _, _, _, _ => trivial
  | .loaded a v :: l, w, w', h, hs, k => ⟨(k a (hs a (by simp [didAddrs]))).trans h.1, Loads.rs h.2 (fun x hx => hs x (by simp [didAddrs, hx])) k⟩
  | .stored _ _ :: _, _, _, h, _, _ => h.elim
  | .newed _ _ :: _, _, _, h, _, _ => h.elim
end
section
variable {P : Program} {n : Nat} {ops : Array Oper} {S : List Addr} {Q : Exit → Act → World → Prop} [Dfs]
end
section
variable {P : Program} {n : Nat} {ops : Array Oper} {S : List Addr} {Q : Exit → Act → World → Prop}
theorem RS.of : ∀ {l : List Did} {w w' : World}, Loads l w → Loads l w' → RS (didAddrs l) w w'
  | [], _, _, _, _, a, ha => by cases ha
  | .loaded b v :: l, w, w', h, k, a, ha => by
    rcases List.mem_cons.1 ha with rfl | ha
    · rw [h.1, k.1]
    · exact RS.of h.2 k.2 a ha
  | .stored _ _ :: _, _, _, h, _, _, _ => h.elim
  | .newed _ _ :: _, _, _, h, _, _, _ => h.elim
end
section
variable {P : Program} {n : Nat} {ops : Array Oper} {S : List Addr} {Q : Exit → Act → World → Prop} [Dfs]
/-- an effect that only adds to the world, where any is let -/
theorem ge_one2 {i : Nat} {e : Env} {w : World} {Q : Exit → Act → World → Prop} (h : GE P n ops Q [(i, 1)] e w) : GE P n ops Q [(i, 2)] e w :=
  fun a hF => wpOp_mono (fun a' w' hh => hh.2) (h a hF)
end
end Go.Proofs.Ytchcdadpahakfaa.GV
