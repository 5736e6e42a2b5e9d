/- The walker's core, fifth part: pieces of code with several ways out; loops as iterations; rows that are owned, read and written by place. Written for this work. -/
import Derived.Test.YtchcdadpahakfaaGv4
import Derived.Laws.MakeOwn
namespace Go.Proofs.Ytchcdadpahakfaa.GV
open Go Go.RowKit
set_option linter.unusedVariables false
set_option linter.unusedSimpArgs false

/-- a round's answers, until one leaves -/
def iter {σ ρ : Type} (f : σ → Option (σ ⊕ ρ)) : Nat → σ → Option ρ
  | 0, _ => none
  | k + 1, s => match f s with
    | none => none
    | some (.inl s') => iter f k s'
    | some (.inr r) => some r
/-- the ways out of a piece: at its end (A), or elsewhere (B) -/
def Outs {σ ρ : Type} (A : σ → Act → World → Prop) (B : ρ → Exit → Act → World → Prop) (o : σ ⊕ ρ) (x : Exit) (a : Act) (w : World) : Prop :=
  match o with
  | .inl s => x = .normal ∧ A s a w
  | .inr r => x ≠ .normal ∧ B r x a w
theorem Outs.again {σ ρ : Type} {A : σ → Act → World → Prop} {B : ρ → Exit → Act → World → Prop} {s : σ} {a : Act} {w : World} (h : A s a w) : Outs A B (.inl s) .normal a w := ⟨rfl, h⟩
theorem Outs.out {σ ρ : Type} {A : σ → Act → World → Prop} {B : ρ → Exit → Act → World → Prop} {r : ρ} {x : Exit} {a : Act} {w : World} (hx : x ≠ .normal) (h : B r x a w) : Outs A B (.inr r) x a w := ⟨hx, h⟩
def Exits {X ρ : Type} (id : Nat) (C : X → Act → World → Prop) (D : ρ → Exit → Act → World → Prop) (o : X ⊕ ρ) (x : Exit) (a : Act) (w : World) : Prop :=
  match o with
  | .inl y => x = .exit id ∧ C y a w
  | .inr r => D r x a w
theorem Exits.here {X ρ : Type} {id : Nat} {C : X → Act → World → Prop} {D : ρ → Exit → Act → World → Prop} {y : X} {a : Act} {w : World} (h : C y a w) : Exits id C D (.inl y) (.exit id) a w := ⟨rfl, h⟩
theorem Exits.on {X ρ : Type} {id : Nat} {C : X → Act → World → Prop} {D : ρ → Exit → Act → World → Prop} {r : ρ} {x : Exit} {a : Act} {w : World} (h : D r x a w) : Exits id C D (.inr r) x a w := h
def Rets {R : Type} (P : Program) (fn : Func) (Post : R → Ending → World → Prop) (r : R) (x : Exit) (a : Act) (w : World) : Prop := x = .ret ∧ bodyPost P fn (Post r) .ret a w
section
variable {P : Program} {n : Nat} {Q : Exit → Act → World → Prop} [Dfs]
theorem we_iter {σ ρ : Type} {f : σ → Option (σ ⊕ ρ)} {A : σ → Act → World → Prop} {B : ρ → Exit → Act → World → Prop} {c : Code} {k : Nat} {s : σ} {out : ρ} {e : Env} {w : World}
    (h : iter f k s = some out) (h0 : ∀ a, Frm n a e → A s a w)
    (round : ∀ s o, f s = some o → ∀ a w, A s a w → ∀ Q', (∀ x a' w', Outs A B o x a' w' → Q' x a' w') → c.wp P Q' a w)
    (hX : ∀ x a w', x ≠ .normal → B out x a w' → Q x a w') : WE P n (.loop c) Q e w := by
  intro a hF
  refine wp_loop (fun a' w' => ∃ k s, iter f k s = some out ∧ A s a' w') (fun a' w' => leastOf (fun k => ∃ s, iter f k s = some out ∧ A s a' w')) ⟨k, s, h, h0 a hF⟩ ?_
  rintro a1 w1 ⟨k1, s1, h1, hA1⟩
  obtain ⟨s, hk, hA⟩ := leastOf_mem (S := fun k => ∃ s, iter f k s = some out ∧ A s a1 w1) ⟨k1, s1, h1, hA1⟩
  generalize hm : leastOf (fun k => ∃ s, iter f k s = some out ∧ A s a1 w1) = m at hk
  cases m with
  | zero => cases hk
  | succ m =>
    simp only [iter] at hk
    cases hf : f s with
    | none => rw [hf] at hk; cases hk
    | some o =>
      rw [hf] at hk
      refine round s o hf a1 w1 hA _ (fun x a' w' ho => ?_)
      cases o with
      | inl s' =>
        obtain ⟨rfl, hA'⟩ := ho
        simp only [] at hk
        refine ⟨⟨m, s', hk, hA'⟩, ?_⟩
        exact Nat.lt_of_le_of_lt (leastOf_le ⟨s', hk, hA'⟩) (Nat.lt_succ_self m)
      | inr r =>
        obtain ⟨hne, hB⟩ := ho
        simp only [Option.some.injEq] at hk
        subst hk
        have := hX x a' w' hne hB
        cases x <;> first | exact absurd rfl hne | exact this
end
/-- a part of a function's code -/
def sub : Code → List Nat → Code
  | c, [] => c
  | .seq a b, i :: p => sub (match i with | 0 => a | _ => b) p
  | .cond _ a b, i :: p => sub (match i with | 0 => a | _ => b) p
  | .block _ c, _ :: p => sub c p
  | .loop c, _ :: p => sub c p
  | c, _ :: _ => c
def subF (f : Func) (p : List Nat) : Code := match f.body with | some c => sub c p | none => .skip

theorem St.takeN {w0 w : World} {L : List Own} (h : St w0 w L) (m : Nat) : St w0 w (L.take m) :=
  ⟨h.below, fun r hr => h.holds r (List.mem_of_mem_take hr), fun r hr => h.base r (List.mem_of_mem_take hr), h.apart.sublist (List.take_sublist _ _)⟩
theorem St.rdAt {α : Type} [Flat α] {w0 w : World} {L : List Own} (h : St w0 w L) (m : Nat) {A : Option Addr} {n c t : Nat} {l : List α} (hm : L[m]? = some (Own.of (.slice A n c) t l)) : RdL w A l := by
  obtain ⟨A', c', e, hR⟩ := h.rdOf m hm
  injection e with e1 e2 e3
  subst e1
  exact hR
theorem St.lenAt {α : Type} [Flat α] {w0 w : World} {L : List Own} (h : St w0 w L) (m : Nat) {A : Option Addr} {n c t : Nat} {l : List α} (hm : L[m]? = some (Own.of (.slice A n c) t l)) : n = l.length := by
  obtain ⟨A', c', e, hR⟩ := h.rdOf m hm
  injection e
/-- a row that is owned, laid open -/
theorem St.open {α : Type} [Flat α] {w0 w : World} {L : List Own} (h : St w0 w L) (m : Nat) {v : Value} {t : Nat} {l : List α} (hm : L[m]? = some (Own.of v t l)) : ∃ A c, v = .slice A l.length c := by
  obtain ⟨A', c', e, hR⟩ := h.rdOf m hm
  exact ⟨A', c', e⟩
/-- one cell of a row that is owned -/
theorem St.setRow {w0 w : World} {L : List Own} {A : Option Addr} {n c t sz m : Nat} {xs : List Value} (h : St w0 w (Own.row (.slice A n c) t sz m xs :: L)) (k : Nat) (v : Value) (hk : k < m * sz) :
    (∃ g cur, A = some ⟨g, 0, none⟩ ∧ w.heap[g]? = some (.cells cur t (0, 0)) ∧ k < cur.size) ∧ St w0 (w.setCell ⟨blkOf A, offOf A + k, none⟩ v) (Own.row (.slice A n c) t sz m (xs.set k v) :: L) := by
  have hown := h.holds _ (List.mem_cons_self ..)
  have hbs := h.base _ (List.mem_cons_self ..)
  obtain ⟨h1, h2 | ⟨g, cap, cur, hv, hg, hn, hcap, hsz, htake⟩⟩ := hown
  · rw [h2.2, Nat.zero_mul] at hk; omega
  · injection hv with hA hn' hc'
    subst hA
    have hb2 : m * sz ≤ cap * sz := Nat.mul_le_mul_right _ hn
    refine ⟨⟨g, cur, rfl, hg, by omega⟩, ?_⟩
    have hset : (w.setCell ⟨g, 0 + k, none⟩ v).heap[g]? = some (.cells (cur.setIfInBounds (0 + k) v) t (0, 0)) := heap_setCell_same w g _ cur t v hg
    show St w0 (w.setCell ⟨g, 0 + k, none⟩ v) _
    refine h.upd rfl rfl rfl (by simp) (fun k hk hne => heap_setCell_other w _ k v (fun e => hne (by simp [Own.row, Value.ownBlock, e]))) ?_ (fun b' hb' => ?_)
    · refine ⟨⟨by simpa using h1.1, h1.2⟩, .inr ⟨g, cap, _, by rw [hn', hc'], hset, hn, hcap, by simpa using hsz, ?_⟩⟩
      apply List.ext_getElem?
      intro q
      rw [List.getElem?_take, ← htake]
      simp only [Nat.zero_add, Array.toList_setIfInBounds, List.getElem?_set, Array.length_toList, List.length_take, List.getElem?_take]
      by_cases hq : q < m * sz
      · rw [if_pos hq, if_pos hq]
        by_cases hkq : k = q
        · subst hkq
          rw [if_pos rfl, if_pos rfl, if_pos (by omega), if_pos (by omega)]
        · rw [if_neg hkq, if_neg hkq]
      · rw [if_neg hq, if_neg (by omega), if_neg hq]
    · have : b' = g := by simpa [Own.row, Value.ownBlock, eq_comm] using hb'
      subst this
      exact ⟨.inl (by simp [Own.row, Value.ownBlock]), by simpa using (hbs b' (by simp [Own.row, Value.ownBlock])).2⟩
def setL (xs : List Value) : Nat → List Value → List Value
  | _, [] => xs
  | k, v :: r => setL (xs.set k v) (k + 1) r
theorem St.setRows {w0 : World} {L : List Own} {A : Option Addr} {n c t sz m : Nat} : ∀ (vs : List Value) (k : Nat) {w : World} {xs : List Value}, St w0 w (Own.row (.slice A n c) t sz m xs :: L) → k + vs.length ≤ m * sz → oneCells vs = true →
    Goes (didStores (blkOf A) (offOf A + k) vs) w (setCells w (blkOf A) (offOf A + k) vs) ∧ St w0 (setCells w (blkOf A) (offOf A + k) vs) (Own.row (.slice A n c) t sz m (setL xs k vs) :: L)
  | [], k, w, xs, h, _, _ => ⟨rfl, h⟩
  | v :: r, k, w, xs, h, hk, ho => by
    simp only [List.length_cons] at hk
    simp only [oneCells, List.all_cons, Bool.and_eq_true] at ho
    obtain ⟨⟨g, cur, rfl, hg, hlt⟩, h'⟩ := h.setRow k v (by omega)
    obtain ⟨h1, h2⟩ := St.setRows r (k + 1) h' (by omega) ho.2
    refine ⟨⟨?_, frozen_of_row w g _ cur t hg, ho.1, h1⟩, h2⟩
    have := cell_of_row w g (0 + k) cur t (0, 0) hg
    show (w.cell? ⟨g, 0 + k, none⟩).isSome = true
    rw [this]; simp; omega
theorem setL_get : ∀ (vs : List Value) (xs : List Value) (k q : Nat), (setL xs k vs)[q]? = if k ≤ q ∧ q < k + vs.length ∧ q < xs.length then vs[q - k]? else xs[q]?
  | [], xs, k, q => by simp [setL]; intro h1 h2; omega
  | v :: r, xs, k, q => by
    rw [setL, setL_get r (xs.set k v) (k + 1) q]
    simp only [List.length_set, List.length_cons, List.getElem?_set]
    by_cases hkq : k = q
    · subst hkq
      rw [if_neg (by omega), if_pos rfl]
      by_cases hl : k < xs.length
      · rw [if_pos hl, if_pos (by omega)]; simp
      · rw [if_neg hl, if_neg (by omega), List.getElem?_eq_none (by omega)]
    · rw [if_neg hkq]
      by_cases hc : k + 1 ≤ q ∧ q < k + 1 + r.length ∧ q < xs.length
      · rw [if_pos hc, if_pos (by omega), show q - k = (q - (k + 1)) + 1 from by omega, List.getElem?_cons_succ]
      · rw [if_neg hc, if_neg (by omega)]
theorem cellsOf_set {α : Type} [Flat α] (l : List α) (i : Nat) (x : α) (hi : i < l.length) : cellsOf (l.set i x) = setL (cellsOf l) (i * Flat.sz α) (Flat.cells x) := by
  apply List.ext_getElem?
  intro q
  have hp := Flat.pos (α := α)
  have hq0 : q = (q / Flat.sz α) * Flat.sz α + q % Flat.sz α := by rw [Nat.mul_comm]; exact (Nat.div_add_mod q _).symm
  have hmod := Nat.mod_lt q hp
  rw [setL_get, Flat.len]
  have hll := cellsOf_length l
  have hls := cellsOf_length (l.set i x)
  rw [List.length_set] at hls
  by_cases hlt : q < l.length * Flat.sz α
  · have hd : q / Flat.sz α < l.length := (Nat.div_lt_iff_lt_mul hp).2 hlt
    have hset : (l.set i x)[q / Flat.sz α]? = some (if i = q / Flat.sz α then x else l[q / Flat.sz α]) := by
      rw [List.getElem?_set]
      split
      · rfl
      · rw [List.getElem?_eq_getElem hd]
    have h1 := cellsOf_get (l.set i x) _ _ _ hset hmod
    rw [← hq0] at h1
    rw [h1]
    by_cases hiq : i = q / Flat.sz α
    · rw [if_pos hiq, if_pos (by rw [hiq]; omega)]
      congr 1
      rw [hiq]; omega
    · rw [if_neg hiq]
      have h2 := cellsOf_get l (q / Flat.sz α) (q % Flat.sz α) _ (List.getElem?_eq_getElem hd) hmod
      rw [← hq0] at h2
      rw [if_neg, h2]
      rintro ⟨h3, h4, _⟩
      apply hiq
      have h5 : i * Flat.sz α < (q / Flat.sz α + 1) * Flat.sz α := by rw [Nat.add_mul]; omega
      have h6 : (q / Flat.sz α) * Flat.sz α < (i + 1) * Flat.sz α := by rw [Nat.add_mul]; omega
      have h7 := Nat.lt_of_mul_lt_mul_right h5
      have h8 := Nat.lt_of_mul_lt_mul_right h6
      omega
  · rw [List.getElem?_eq_none (by omega), if_neg (by omega), List.getElem?_eq_none (by omega)]
theorem cellsOf_setAt {α : Type} [Flat α] (l : List α) (i j : Nat) (x x' : α) (vs : List Value) (hx : l[i]? = some x) (hj : j + vs.length ≤ Flat.sz α) (hc : Flat.cells x' = setL (Flat.cells x) j vs) : cellsOf (l.set i x') = setL (cellsOf l) (i * Flat.sz α + j) vs := by
  have hi := lt_of_get hx
  rw [cellsOf_set l i x' hi]
  apply List.ext_getElem?
  intro q
  have hll := cellsOf_length l
  have hin : (i + 1) * Flat.sz α ≤ l.length * Flat.sz α := Nat.mul_le_mul_right _ hi
  rw [Nat.add_mul] at hin
  rw [setL_get, setL_get, Flat.len, hc, setL_get, Flat.len]
  by_cases h1 : i * Flat.sz α + j ≤ q ∧ q < i * Flat.sz α + j + vs.length ∧ q < (cellsOf l).length
  · rw [if_pos (by omega), if_pos (by omega), if_pos h1]; congr 1; omega
  · rw [if_neg h1]
    by_cases h2 : i * Flat.sz α ≤ q ∧ q < i * Flat.sz α + Flat.sz α ∧ q < (cellsOf l).length
    · rw [if_pos h2, if_neg (by omega)]
      have := cellsOf_get l i (q - i * Flat.sz α) x hx (by omega)
      rw [show i * Flat.sz α + (q - i * Flat.sz α) = q from by omega] at this
      exact this.symm
    · rw [if_neg h2]
section
variable {P : Program} {n : Nat} {ops : Array Oper} {Q : Exit → Act → World → Prop} [Dfs]
/-- a store into an element of a row that is owned -/
theorem ge_seti {α : Type} [Flat α] {i m j jn : Nat} {A : Option Addr} {nn c t : Nat} {l : List α} {x x' : α} {vs : List Value} {l' : List Did} {e : Env} {rest : List (Nat × Nat)} {w0 w : World} {L : List Own} (hS : St w0 w (Own.of (.slice A nn c) t l :: L))
    (hs : step1 P n ops e i [] = some (none, .skip, l', [])) (hl' : l' = didStores (blkOf A) (offOf A + (jn * Flat.sz α + j)) vs) (hx : l[jn]? = some x) (hj : Nat.ble (j + vs.length) (Flat.sz α) = true) (ho : oneCells vs = true) (hc : Flat.cells x' = setL (Flat.cells x) j vs)
    (k : ∀ w1, St w0 w1 (Own.of (.slice A nn c) t (l.set jn x') :: L) → GE P n ops Q rest e w1) : GE P n ops Q ((i, m + 2) :: rest) e w := by
  have hj' : j + vs.length ≤ Flat.sz α := by simpa using hj
  have hi := lt_of_get hx
  have hin : (jn + 1) * Flat.sz α ≤ l.length * Flat.sz α := Nat.mul_le_mul_right _ hi
  rw [Nat.add_mul] at hin
  obtain ⟨h1, h2⟩ := St.setRows vs (jn * Flat.sz α + j) hS (by omega) ho
  refine ge_store (d := none) (hl' ▸ hs) h1 (k _ ?_)
  have e := cellsOf_setAt l jn j x x' vs hx hj' hc
  show St w0 _ (Own.row _ _ _ _ _ :: L)
  rw [e, List.length_set]
  exact h2
end
/-- a block that is owned, as a row -/
theorem St.asRow {α : Type} [Flat α] {w0 w : World} {L : List Own} {b t c : Nat} {cs : Array Value} (h : St w0 w (Own.blk b (.cells cs t (0, 0)) :: L)) (l : List α) (hl : l.length ≤ c) (hc : c ≤ 140737488355328) (hsz : cs.size = c * Flat.sz α) (ht : cs.toList.take (l.length * Flat.sz α) = cellsOf l) :
    St w0 w (Own.of (.slice (some ⟨b, 0, none⟩) l.length c) t l :: L) := by
  have hb : w.heap[b]? = some (.cells cs t (0, 0)) := h.holds (Own.blk b (.cells cs t (0, 0))) (by simp)
  refine ⟨h.below, fun r hr => ?_, fun r hr b' hb' => ?_, ?_⟩
  · rcases List.mem_cons.1 hr with rfl | hr
    · exact ⟨⟨by rw [cellsOf_length], by omega⟩, .inr ⟨b, c, cs, rfl, hb, hl, by simp only [maxLen]; omega, hsz, ht⟩⟩
    · exact h.holds r (List.mem_cons_of_mem _ hr)
  · rcases List.mem_cons.1 hr with rfl | hr
    · have : b' = b := by simpa [Own.row, Value.ownBlock, eq_comm] using hb'
      subst this
      exact h.base (Own.blk b' (.cells cs t (0, 0))) (by simp) b' (by simp [Own.blk])
    · exact h.base r (List.mem_cons_of_mem _ hr) b' hb'
  · obtain ⟨h1, h2⟩ := List.pairwise_cons.1 h.apart
    refine List.Pairwise.cons (fun s hs b' hb' => ?_) h2
    have : b' = b := by simpa [Own.row, Value.ownBlock, eq_comm] using hb'
    subst this
    exact h1 s hs b' (by simp [Own.blk])
theorem made_replicate {α : Type} [Flat α] (z : α) (l c : Nat) (h : l ≤ c) : (madeCells (Flat.cells z).toArray (c * Flat.sz α)).toList.take ((List.replicate l z).length * Flat.sz α) = cellsOf (List.replicate l z) := by
  apply List.ext_getElem?
  intro q
  have hp := Flat.pos (α := α)
  rw [List.length_replicate, List.getElem?_take]
  have hll := cellsOf_length (List.replicate l z)
  rw [List.length_replicate] at hll
  by_cases hq : q < l * Flat.sz α
  · rw [if_pos hq]
    have hq0 : q = (q / Flat.sz α) * Flat.sz α + q % Flat.sz α := by rw [Nat.mul_comm]; exact (Nat.div_add_mod q _).symm
    have hmod := Nat.mod_lt q hp
    have hd : q / Flat.sz α < l := (Nat.div_lt_iff_lt_mul hp).2 hq
    have h1 := cellsOf_get (List.replicate l z) (q / Flat.sz α) (q % Flat.sz α) z (by simp [hd]) hmod
    rw [← hq0] at h1
    have hle : l * Flat.sz α ≤ c * Flat.sz α := Nat.mul_le_mul_right _ h
    have hml : q % Flat.sz α < (Flat.cells z).length := by rw [Flat.len]; exact hmod
    rw [h1, Array.getElem?_toList]
    simp [madeCells, show q < c * Flat.sz α by omega, Flat.len, hml, List.getElem?_eq_getElem hml]
  · rw [if_neg hq, List.getElem?_eq_none (by omega)]
section
variable {P : Program} {n : Nat} {ops : Array Oper} {Q : Exit → Act → World → Prop} [Dfs]
/-- make -/
theorem ge_make {α : Type} [Flat α] {i d t el bytes l c : Nat} {x y : Operand} {ty : TypeId} {k1 k2 : IntKind} {li ci : Int} {z : Value} {z' : α} {e : Env} {rest : List (Nat × Nat)} {w0 w : World} {L : List Own} (h : opAt n ops e i = some (d, .makeSlice t x y, ty))
    (hx : e.ev x = some (.int k1 li)) (hy : e.ev y = some (.int k2 ci)) (hli : li = (l : Int)) (hci : ci = (c : Int)) (ht : P.underlying t = some (.slice el)) (hi : (P.info? el).map (fun i => (i.zero, i.size, i.bytes)) = some (some z, Flat.sz α, bytes)) (hz : z.cells = (Flat.cells z').toArray)
    (hS : St w0 w L) (hlc : l ≤ c) (hb0 : Nat.blt 0 bytes = true) (hb : c * bytes ≤ 140737488355328)
    (k : ∀ v' w1, Ext w w1 → St w0 w1 (Own.of v' el (List.replicate l z') :: L) → GE P n ops Q rest ((d, v') :: e) w1) : GE P n ops Q ((i, 1) :: rest) e w := by
  subst hli
  subst hci
  obtain ⟨o, ho, hd, hdn, hw, hp, hk, hop, hty⟩ := opAt_sound h
  obtain ⟨inf, hinf, hzz⟩ := Option.map_eq_some_iff.1 hi
  simp only [Prod.mk.injEq] at hzz
  obtain ⟨hz0, hz1, hz2⟩ := hzz
  have hb0' : 0 < bytes := by simpa [Nat.blt_eq] using hb0
  have hc47 : c ≤ 140737488355328 := Nat.le_trans (Nat.le_mul_of_pos_right _ hb0') hb
  have hby : (inf.bytes : Int) * (c : Int) ≤ 281474976710656 := by
    have h : ((inf.bytes * c : Nat) : Int) ≤ 281474976710656 := by rw [hz2, Nat.mul_comm]; omega
    rwa [Int.natCast_mul] at h
  have hrun := run_make (P := P) w t el inf z ht hinf hz0 k1 k2 (l : Int) (c : Int) (by omega) (by omega) hby (by omega)
  simp only [Int.toNat_natCast, hz1, hz] at hrun
  intro a hF
  unfold wpG wpOp
  simp only [ho, wantE_sound hF hw, if_true]
  refine .inl ?_
  have hex : (execOp a.eval o).run P w = .ok (.value (.slice (some ⟨w.heap.size, 0, none⟩) l c)) (w.alloc (.cells (madeCells (Flat.cells z').toArray (c * Flat.sz α)) el)) := by
    rw [execOp_env hF hp hk]
    unfold execOp
    simp only [hop, Env.evD, hx, hy, Option.getD_some, Sem.run_bind, hrun, Result.andThen_ok, Sem.run_pure]
  unfold Oper.wp
  rw [hex]
  simp only [Oper.upon, hd]
  have hx1 := ext_alloc w (.cells (madeCells (Flat.cells z').toArray (c * Flat.sz α)) el)
  have hS1 := (hS.alloc (.cells (madeCells (Flat.cells z').toArray (c * Flat.sz α)) el)).asRow (c := c) (List.replicate l z') (by simpa using hlc) hc47 (size_madeCells _ _) (made_replicate z' l c hlc)
  rw [List.length_replicate] at hS1
  exact ⟨hx1, k _ _ hx1 hS1 _ (hF.put hdn _)⟩
end
end Go.Proofs.Ytchcdadpahakfaa.GV
