/- The walker's core, 31st part: regions of several orders; what waits through others counts (most statements by program from the 20th and 24th part). Written for this work. -/
import Derived.Test.YtchcdadpahakfaaGv29
namespace Go.Proofs.Ytchcdadpahakfaa.GV
open Go Go.RowKit
set_option linter.unusedVariables false
set_option linter.unusedSimpArgs false
/-- a load, its addresses; operations that wait for it; operations that it waits for -/
abbrev Al := Nat × List Addr × List Nat × List Nat
def adr3 : List Al → Nat → List Addr
  | [], _ => []
  | (j, l, _) :: r, i => match Nat.beq j i with | true => l ++ adr3 r i | false => adr3 r i
/-- what an effect must leave as it is -/
def Sof3 (ops : Array Oper) : List Al → Nat → List Addr
  | [], _ => []
  | (i, l, ws, ps) :: r, j => match bound ops j i || ws.contains j || ps.contains j with | true => Sof3 ops r j | false => l ++ Sof3 ops r j
def Closed (ops : Array Oper) (listed : Array Bool) : Prop := ∀ (j : Nat) (oj : Oper), ops[j]? = some oj → listed.getD j false = true → ∀ e ∈ oj.after, Region.binds .any e = true → listed.getD e.on false = true
theorem Closed.set {ops : Array Oper} {listed : Array Bool} (h : Closed ops listed) {j : Nat} (hj : j ∈ Region.ready .any ops listed) : Closed ops (listed.setIfInBounds j true) := by
  intro k ok hk hl e he hb
  by_cases hkj : j = k
  · subst hkj
    obtain ⟨_, o, ho, hall⟩ := mem_ready.1 hj
    obtain rfl : o = ok := by rw [hk] at ho; exact (Option.some.inj ho).symm
    exact getD_set_true (hall e he hb)
  · rw [getD_set_ne false hkj] at hl
    exact getD_set_true (h k ok hk hl e he hb)
section
variable (P : Program) (ops : Array Oper) (al : List Al)
def SteadyR3 (i : Nat) (v : Value) (a : Act) (w : World) : Prop :=
  ∃ o, ops[i]? = some o ∧ ((Region.wanted o (yielded ops a.tmps) = true ∧ ∀ w', RS (adr3 al i) w w' → ((execOp a.eval o).run P w' = .ok (.value v) w')) ∨
    (Region.wanted o (yielded ops a.tmps) = false ∧ v = undef))
def valsR3 (K : Act → World → Prop) : List Nat → Act → World → Prop
  | [], a, w => K a w
  | i :: l, a, w => ∃ v, SteadyR3 P ops al i v a w ∧ valsR3 K l (a.put (dstOf ops i) v) w
def wpO3 (Q : Exit → Act → World → Prop) : Ord → Act → World → Prop
  | .fin, a, w => Q .normal a w
  | .vals l r, a, w => valsR3 P ops al (wpO3 Q r) l a w
  | .alt i k r more, a, w => wpOp P ops Q i (fun a' w' => RS (Sof3 ops al i) w w' ∧ wpO3 Q r a' w') a w ∧ wpO3 Q more a w
  | .nomore, _, _ => True
end
section
variable {P : Program} {ops : Array Oper} {al : List Al} {Q : Exit → Act → World → Prop}
theorem SteadyR3.wpOp {i : Nat} {v : Value} {a : Act} {w : World} (h : SteadyR3 P ops al i v a w) {K : Act → World → Prop} (k : K (a.put (dstOf ops i) v) w) : Go.wpOp P ops Q i K a w := by
  obtain ⟨o, ho, h⟩ := h
  unfold Go.wpOp
  simp only [dstOf, ho, Option.bind_some] at k
  simp only [ho]
  rcases h with ⟨hw, h⟩ | ⟨hw, rfl⟩
  · simp only [hw, if_true]
    refine .inl ?_
    unfold Oper.wp; rw [h w (RS.refl _ w)]; exact k
  · simp only [hw, Bool.false_eq_true, if_false]; exact k
theorem SteadyR3.of_same {i : Nat} {o : Oper} {v : Value} {a a' : Act} {w : World} (hi : ops[i]? = some o) (h : SteadyR3 P ops al i v a w) (he : execOp a'.eval o = execOp a.eval o)
    (hw : Region.wanted o (yielded ops a'.tmps) = Region.wanted o (yielded ops a.tmps)) : SteadyR3 P ops al i v a' w := by
  obtain ⟨o', ho', h⟩ := h
  obtain rfl : o' = o := by rw [hi] at ho'; exact (Option.some.inj ho').symm
  exact ⟨o', hi, by rw [he, hw]; exact h⟩
theorem SteadyR3.ext {i : Nat} {v : Value} {a : Act} {w w' : World} (h : SteadyR3 P ops al i v a w) (k : RS (adr3 al i) w w') : SteadyR3 P ops al i v a w' := by
  obtain ⟨o, ho, h⟩ := h
  refine ⟨o, ho, ?_⟩
  rcases h with ⟨hw, h⟩ | h
  · exact .inl ⟨hw, fun w2 h2 => h w2 (k.trans h2)⟩
  · exact .inr h
end
section
variable {P : Program} {n : Nat} {ops : Array Oper} {al : List Al} {Q : Exit → Act → World → Prop} [Dfs]
def GO3 (P : Program) (n : Nat) (ops : Array Oper) (al : List Al) (Q : Exit → Act → World → Prop) (o : Ord) (e : Env) (w : World) : Prop := ∀ a, Frm n a e → wpO3 P ops al Q o a w
theorem go_vals3 {r : Ord} : ∀ (is : List Nat) {ans : List Ans} {e : Env} {vs : Env} {l : List Did} {w : World}, batch P n ops is e ans = some (vs ++ e, l) → Loads l w → (∀ i ∈ is, ∀ a ∈ didAddrs l, a ∈ adr3 al i) →
    GO3 P n ops al Q r (vs ++ e) w → GO3 P n ops al Q (.vals is r) e w := by
  have key : ∀ (is : List Nat) {ans : List Ans} {e e' : Env} {l : List Did} {w : World}, batch P n ops is e ans = some (e', l) → Loads l w → (∀ i ∈ is, ∀ a ∈ didAddrs l, a ∈ adr3 al i) →
      (∀ a, Frm n a e' → wpO3 P ops al Q r a w) → ∀ a, Frm n a e → valsR3 P ops al (wpO3 P ops al Q r) is a w := by
    intro is
    induction is with
    | nil =>
      intro ans e e' l w h hl hs k
      cases ans with
      | nil => simp only [batch, Option.some.injEq, Prod.mk.injEq] at h; obtain ⟨rfl, rfl⟩ := h; exact k
      | cons x s => simp [batch] at h
    | cons i is ih =>
      intro ans e e' l w h hl hs k
      simp only [batch] at h
      split at h
      · rename_i e1 l1 s1 hst
        split at h
        · rename_i e2 l2 hb
          simp only [Option.some.injEq, Prod.mk.injEq] at h
          obtain ⟨rfl, rfl⟩ := h
          obtain ⟨hl1, hl2⟩ := hl.append
          have happ : ∀ (x y : List Did), didAddrs (x ++ y) = didAddrs x ++ didAddrs y := by
            intro x y
            induction x with
            | nil => rfl
            | cons z x ihx => cases z <;> simp [didAddrs, ihx]
          rw [happ] at hs
          intro a hF
          -- the step
          unfold step0 at hst
          cases ho : ops[i]? with
          | none => rw [ho] at hst; cases hst
          | some o =>
            rw [ho] at hst
            simp only [] at hst
            cases hd : o.dst with
            | none => rw [hd] at hst; cases hst
            | some d =>
              rw [hd] at hst
              simp only [] at hst
              cases hb' : Nat.blt d n with
              | false => rw [hb'] at hst; cases hst
              | true =>
                rw [hb'] at hst
                simp only [] at hst
                have hdst : dstOf ops i = some d := by simp [dstOf, ho, hd]
                cases hw : wantE ops e o with
                | none => rw [hw] at hst; cases hst
                | some b =>
                  cases b with
                  | false =>
                    rw [hw] at hst
                    simp only [Option.some.injEq, Prod.mk.injEq] at hst
                    obtain ⟨rfl, rfl, rfl⟩ := hst
                    refine ⟨undef, ⟨o, ho, .inr ⟨wantE_sound hF hw, rfl⟩⟩, ?_⟩
                    exact ih hb hl2 (fun j hj x hx => hs j (List.mem_cons_of_mem _ hj) x (List.mem_append_right _ hx)) k _ (by rw [hdst]; exact hF.put hb' _)
                  | true =>
                    rw [hw] at hst
                    simp only [] at hst
                    split at hst
                    · rename_i d' v l' s' hs1
                      simp only [Option.some.injEq, Prod.mk.injEq] at hst
                      obtain ⟨rfl, rfl, rfl⟩ := hst
                      obtain ⟨o', ho', hd', _, hr⟩ := step1_sound hs1
                      obtain rfl : o' = o := by rw [ho] at ho'; exact (Option.some.inj ho').symm
                      obtain ⟨hw', hrun⟩ := hr a hF
                      refine ⟨v, ⟨o', ho, .inl ⟨hw', fun w' hx => hrun w' w' (hl1.rs (fun x hx => hs i (List.mem_cons_self ..) x (List.mem_append_left _ hx)) hx).goes⟩⟩, ?_⟩
                      exact ih hb hl2 (fun j hj x hx => hs j (List.mem_cons_of_mem _ hj) x (List.mem_append_right _ hx)) k _ (by rw [hdst]; exact hF.put hb' _)
                    · cases hst
        · cases h
      · cases h
  intro is ans e vs l w h hl hs k
  exact key is h hl hs k
end
theorem mem_one3 {al : List Al} {i : Nat} {l : List Did} (h : adr3 al i = didAddrs l) : ∀ j ∈ [i], ∀ a ∈ didAddrs l, a ∈ adr3 al j := by
  intro j hj a ha
  obtain rfl : j = i := by simpa using hj
  rw [h]; exact ha
section
variable {P : Program} {n : Nat} {ops : Array Oper} {al : List Al} {Q : Exit → Act → World → Prop} [Dfs]
theorem go3_nest {r : Ord} : ∀ (l : List Nat) {e : Env} {w : World}, GO3 P n ops al Q (.vals l r) e w → GO3 P n ops al Q (nestV l r) e w := by
  intro l e w h a hF
  have key : ∀ (l : List Nat) (a : Act) (w : World), valsR3 P ops al (wpO3 P ops al Q r) l a w → wpO3 P ops al Q (nestV l r) a w := by
    intro l
    induction l with
    | nil => intro a w h; exact h
    | cons i l ih =>
      intro a w h
      obtain ⟨v, hy, h⟩ := h
      exact ⟨v, hy, ih _ _ h⟩
  exact key l a w (h a hF)
theorem go3_batch {r : Ord} (is : List Nat) {ans : List Ans} {e : Env} {vs : Env} {l : List Did} {w : World} (hb : batch P n ops is e ans = some (vs ++ e, l)) (hl : Loads l w) (hs : ∀ i ∈ is, ∀ a ∈ didAddrs l, a ∈ adr3 al i)
    (k : GO3 P n ops al Q r (vs ++ e) w) : GO3 P n ops al Q (nestV is r) e w := go3_nest is (go_vals3 is hb hl hs k)
end
section
variable {P : Program} {n : Nat} {ops : Array Oper} {al : List Al} {Q : Exit → Act → World → Prop} [Dfs]
end
section
variable {P : Program} {n : Nat} {ops : Array Oper} {al : List Al} {Q : Exit → Act → World → Prop} [Dfs]
end
end Go.Proofs.Ytchcdadpahakfaa.GV
