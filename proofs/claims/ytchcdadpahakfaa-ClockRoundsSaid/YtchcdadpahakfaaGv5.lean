/- The walker's core, fifth part: pieces of code with several ways out; loops as iterations; rows that are owned, read and written by place. Written for this work. -/
import Derived.Test.YtchcdadpahakfaaGv4
import Derived.Laws.MakeOwn
namespace Go.Proofs.Ytchcdadpahakfaa.GV
open Go Go.RowKit
set_option linter.unusedVariables false
set_option linter.unusedSimpArgs false

/-- a round's answers, until one leaves -/
def iter {σ ρ : Type} (f : σ → Option (σ ⊕ ρ)) : Nat → σ → Option ρ
  | 0, _ => none
  | k + 1, s => match f s with
    | none => none
    | some (.inl s') => iter f k s'
    | some (.inr r) => some r
/-- the ways out of a piece: at its end (A), or elsewhere (B) -/
def Outs {σ ρ : Type} (A : σ → Act → World → Prop) (B : ρ → Exit → Act → World → Prop) (o : σ ⊕ ρ) (x : Exit) (a : Act) (w : World) : Prop :=
  match o with
  | .inl s => x = .normal ∧ A s a w
  | .inr r => x ≠ .normal ∧ B r x a w
theorem Outs.again {σ ρ : Type} {A : σ → Act → World → Prop} {B : ρ → Exit → Act → World → Prop} {s : σ} {a : Act} {w : World} (h : A s a w) : Outs A B (.inl s) .normal a w := ⟨rfl, h⟩
theorem Outs.out {σ ρ : Type} {A : σ → Act → World → Prop} {B : ρ → Exit → Act → World → Prop} {r : ρ} {x : Exit} {a : Act} {w : World} (hx : x ≠ .normal) (h : B r x a w) : Outs A B (.inr r) x a w := ⟨hx, h⟩
def Exits {X ρ : Type} (id : Nat) (C : X → Act → World → Prop) (D : ρ → Exit → Act → World → Prop) (o : X ⊕ ρ) (x : Exit) (a : Act) (w : World) : Prop :=
  match o with
  | .inl y => x = .exit id ∧ C y a w
  | .inr r => D r x a w
theorem Exits.here {X ρ : Type} {id : Nat} {C : X → Act → World → Prop} {D : ρ → Exit → Act → World → Prop} {y : X} {a : Act} {w : World} (h : C y a w) : Exits id C D (.inl y) (.exit id) a w := ⟨rfl, h⟩
theorem Exits.on {X ρ : Type} {id : Nat} {C : X → Act → World → Prop} {D : ρ → Exit → Act → World → Prop} {r : ρ} {x : Exit} {a : Act} {w : World} (h : D r x a w) : Exits id C D (.inr r) x a w := h
def Rets {R : Type} (P : Program) (fn : Func) (Post : R → Ending → World → Prop) (r : R) (x : Exit) (a : Act) (w : World) : Prop := x = .ret ∧ bodyPost P fn (Post r) .ret a w
section
variable {P : Program} {n : Nat} {Q : Exit → Act → World → Prop} [Dfs]
theorem we_iter {σ ρ : Type} {f : σ → Option (σ ⊕ ρ)} {A : σ → Act → World → Prop} {B : ρ → Exit → Act → World → Prop} {c : Code} {k : Nat} {s : σ} {out : ρ} {e : Env} {w : World}
    (h : iter f k s = some out) (h0 : ∀ a, Frm n a e → A s a w)
    (round : ∀ s o, f s = some o → ∀ a w, A s a w → ∀ Q', (∀ x a' w', Outs A B o x a' w' → Q' x a' w') → c.wp P Q' a w)
    (hX : ∀ x a w', x ≠ .normal → B out x a w' → Q x a w') : WE P n (.loop c) Q e w := by
  intro a hF
  refine wp_loop (fun a' w' => ∃ k s, iter f k s = some out ∧ A s a' w') (fun a' w' => leastOf (fun k => ∃ s, iter f k s = some out ∧ A s a' w')) ⟨k, s, h, h0 a hF⟩ ?_
  rintro a1 w1 ⟨k1, s1, h1, hA1⟩
  obtain ⟨s, hk, hA⟩ := leastOf_mem (S := fun k => ∃ s, iter f k s = some out ∧ A s a1 w1) ⟨k1, s1, h1, hA1⟩
  generalize hm : leastOf (fun k => ∃ s, iter f k s = some out ∧ A s a1 w1) = m at hk
  cases m with
  | zero => cases hk
  | succ m =>
    simp only [iter] at hk
    cases hf : f s with
    | none => rw [hf] at hk; cases hk
    | some o =>
      rw [hf] at hk
      refine round s o hf a1 w1 hA _ (fun x a' w' ho => ?_)
      cases o with
      | inl s' =>
        obtain ⟨rfl, hA'⟩ := ho
        simp only [] at hk
        refine ⟨⟨m, s', hk, hA'⟩, ?_⟩
        exact Nat.lt_of_le_of_lt (leastOf_le ⟨s', hk, hA'⟩) (Nat.lt_succ_self m)
      | inr r =>
        obtain ⟨hne, hB⟩ := ho
        simp only [Option.some.injEq] at hk
        subst hk
        have := hX x a' w' hne hB
        cases x <;> first | exact absurd rfl hne | exact this
end
/-- a part of a function's code -/
def sub : Code → List Nat → Code
  | c, [] => c
  | .seq a b, i :: p => sub (match i with | 0 => a | _ => b) p
  | .cond _ a b, i :: p => sub (match i with | 0 => a | _ => b) p
  | .block _ c, _ :: p => sub c p
  | .loop c, _ :: p => sub c p
  | c, _ :: _ => c
def subF (f : Func) (p : List Nat) : Code := match f.body with | some c => sub c p | none => .skip

theorem St.takeN {w0 w : World} {L : List Own} (h : St w0 w L) (m : Nat) : St w0 w (L.take m) :=
  ⟨h.below, fun r hr => h.holds r (List.mem_of_mem_take hr), fun r hr => h.base r (List.mem_of_mem_take hr), h.apart.sublist (List.take_sublist _ _)⟩
theorem St.rdAt {α : Type} [Flat α] {w0 w : World} {L : List Own} (h : St w0 w L) (m : Nat) {A : Option Addr} {n c t : Nat} {l : List α} (hm : L[m]? = some (Own.of (.slice A n c) t l)) : RdL w A l := by
  obtain ⟨A', c', e, hR⟩ := h.rdOf m hm
  injection e with e1 e2 e3
  subst e1
  exact hR
theorem St.lenAt {α : Type} [Flat α] {w0 w : World} {L : List Own} (h : St w0 w L) (m : Nat) {A : Option Addr} {n c t : Nat} {l : List α} (hm : L[m]? = some (Own.of (.slice A n c) t l)) : n = l.length := by
  obtain ⟨A', c', e, hR⟩ := h.rdOf m hm
  injection e
/-- a row that is owned, laid open -/
theorem St.open {α : Type} [Flat α] {w0 w : World} {L : List Own} (h : St w0 w L) (m : Nat) {v : Value} {t : Nat} {l : List α} (hm : L[m]? = some (Own.of v t l)) : ∃ A c, v = .slice A l.length c := by
  obtain ⟨A', c', e, hR⟩ := h.rdOf m hm
  exact ⟨A', c', e⟩
section
variable {P : Program} {n : Nat} {ops : Array Oper} {Q : Exit → Act → World → Prop} [Dfs]
end
/-- a block that is owned, as a row -/
theorem St.asRow {α : Type} [Flat α] {w0 w : World} {L : List Own} {b t c : Nat} {cs : Array Value} (h : St w0 w (Own.blk b (.cells cs t (0, 0)) :: L)) (l : List α) (hl : l.length ≤ c) (hc : c ≤ 140737488355328) (hsz : cs.size = c * Flat.sz α) (ht : cs.toList.take (l.length * Flat.sz α) = cellsOf l) :
    St w0 w (Own.of (.slice (some ⟨b, 0, none⟩) l.length c) t l :: L) := by
  have hb : w.heap[b]? = some (.cells cs t (0, 0)) := h.holds (Own.blk b (.cells cs t (0, 0))) (by simp)
  refine ⟨h.below, fun r hr => ?_, fun r hr b' hb' => ?_, ?_⟩
  · rcases List.mem_cons.1 hr with rfl | hr
    · exact ⟨⟨by rw [cellsOf_length], by omega⟩, .inr ⟨b, c, cs, rfl, hb, hl, by simp only [maxLen]; omega, hsz, ht⟩⟩
    · exact h.holds r (List.mem_cons_of_mem _ hr)
  · rcases List.mem_cons.1 hr with rfl | hr
    · have : b' = b := by simpa [Own.row, Value.ownBlock, eq_comm] using hb'
      subst this
      exact h.base (Own.blk b' (.cells cs t (0, 0))) (by simp) b' (by simp [Own.blk])
    · exact h.base r (List.mem_cons_of_mem _ hr) b' hb'
  · obtain ⟨h1, h2⟩ := List.pairwise_cons.1 h.apart
    refine List.Pairwise.cons (fun s hs b' hb' => ?_) h2
    have : b' = b := by simpa [Own.row, Value.ownBlock, eq_comm] using hb'
    subst this
    exact h1 s hs b' (by simp [Own.blk])
theorem made_replicate {α : Type} [Flat α] (z : α) (l c : Nat) (h : l ≤ c) : (madeCells (Flat.cells z).toArray (c * Flat.sz α)).toList.take ((List.replicate l z).length * Flat.sz α) = cellsOf (List.replicate l z) := by
  apply List.ext_getElem?
  intro q
  have hp := Flat.pos (α := α)
  rw [List.length_replicate, List.getElem?_take]
  have hll := cellsOf_length (List.replicate l z)
  rw [List.length_replicate] at hll
  by_cases hq : q < l * Flat.sz α
  · rw [if_pos hq]
    have hq0 : q = (q / Flat.sz α) * Flat.sz α + q % Flat.sz α := by rw [Nat.mul_comm]; exact (Nat.div_add_mod q _).symm
    have hmod := Nat.mod_lt q hp
    have hd : q / Flat.sz α < l := (Nat.div_lt_iff_lt_mul hp).2 hq
    have h1 := cellsOf_get (List.replicate l z) (q / Flat.sz α) (q % Flat.sz α) z (by simp [hd]) hmod
    rw [← hq0] at h1
    have hle : l * Flat.sz α ≤ c * Flat.sz α := Nat.mul_le_mul_right _ h
    have hml : q % Flat.sz α < (Flat.cells z).length := by rw [Flat.len]; exact hmod
    rw [h1, Array.getElem?_toList]
    simp [madeCells, show q < c * Flat.sz α by omega, Flat.len, hml, List.getElem?_eq_getElem hml]
  · rw [if_neg hq, List.getElem?_eq_none (by omega)]
section
variable {P : Program} {n : Nat} {ops : Array Oper} {Q : Exit → Act → World → Prop} [Dfs]
/-- make -/
theorem ge_make {α : Type} [Flat α] {i d t el bytes l c : Nat} {x y : Operand} {ty : TypeId} {k1 k2 : IntKind} {li ci : Int} {z : Value} {z' : α} {e : Env} {rest : List (Nat × Nat)} {w0 w : World} {L : List Own} (h : opAt n ops e i = some (d, .makeSlice t x y, ty))
    (hx : e.ev x = some (.int k1 li)) (hy : e.ev y = some (.int k2 ci)) (hli : li = (l : Int)) (hci : ci = (c : Int)) (ht : P.underlying t = some (.slice el)) (hi : (P.info? el).map (fun i => (i.zero, i.size, i.bytes)) = some (some z, Flat.sz α, bytes)) (hz : z.cells = (Flat.cells z').toArray)
    (hS : St w0 w L) (hlc : l ≤ c) (hb0 : Nat.blt 0 bytes = true) (hb : c * bytes ≤ 140737488355328)
    (k : ∀ v' w1, Ext w w1 → St w0 w1 (Own.of v' el (List.replicate l z') :: L) → GE P n ops Q rest ((d, v') :: e) w1) : GE P n ops Q ((i, 1) :: rest) e w := by
  subst hli
  subst hci
  obtain ⟨o, ho, hd, hdn, hw, hp, hk, hop, hty⟩ := opAt_sound h
  obtain ⟨inf, hinf, hzz⟩ := Option.map_eq_some_iff.1 hi
  simp only [Prod.mk.injEq] at hzz
  obtain ⟨hz0, hz1, hz2⟩ := hzz
  have hb0' : 0 < bytes := by simpa [Nat.blt_eq] using hb0
  have hc47 : c ≤ 140737488355328 := Nat.le_trans (Nat.le_mul_of_pos_right _ hb0') hb
  have hby : (inf.bytes : Int) * (c : Int) ≤ 281474976710656 := by
    have h : ((inf.bytes * c : Nat) : Int) ≤ 281474976710656 := by rw [hz2, Nat.mul_comm]; omega
    rwa [Int.natCast_mul] at h
  have hrun := run_make (P := P) w t el inf z ht hinf hz0 k1 k2 (l : Int) (c : Int) (by omega) (by omega) hby (by omega)
  simp only [Int.toNat_natCast, hz1, hz] at hrun
  intro a hF
  unfold wpG wpOp
  simp only [ho, wantE_sound hF hw, if_true]
  refine .inl ?_
  have hex : (execOp a.eval o).run P w = .ok (.value (.slice (some ⟨w.heap.size, 0, none⟩) l c)) (w.alloc (.cells (madeCells (Flat.cells z').toArray (c * Flat.sz α)) el)) := by
    rw [execOp_env hF hp hk]
    unfold execOp
    simp only [hop, Env.evD, hx, hy, Option.getD_some, Sem.run_bind, hrun, Result.andThen_ok, Sem.run_pure]
  unfold Oper.wp
  rw [hex]
  simp only [Oper.upon, hd]
  have hx1 := ext_alloc w (.cells (madeCells (Flat.cells z').toArray (c * Flat.sz α)) el)
  have hS1 := (hS.alloc (.cells (madeCells (Flat.cells z').toArray (c * Flat.sz α)) el)).asRow (c := c) (List.replicate l z') (by simpa using hlc) hc47 (size_madeCells _ _) (made_replicate z' l c hlc)
  rw [List.length_replicate] at hS1
  exact ⟨hx1, k _ _ hx1 hS1 _ (hF.put hdn _)⟩
end
end Go.Proofs.Ytchcdadpahakfaa.GV
