/- The walker's core, seventh part: rows appended to rows; slices of slices; rows lent. Written for this work. -/
import Derived.Test.YtchcdadpahakfaaGv6
import Derived.Laws.StructEq
namespace Go.Proofs.Ytchcdadpahakfaa.GV
open Go Go.RowKit
set_option linter.unusedVariables false
set_option linter.unusedSimpArgs false

section
variable {P : Program} {n : Nat} {ops : Array Oper} {Q : Exit → Act → World → Prop} [Dfs]
/-- a row appended to one that is owned -/
theorem ge_appendL {α : Type} [Flat α] {i d m t el bytes c1 : Nat} {A1 : Option Addr} {x y : Operand} {ty : TypeId} {v z : Value} {l us : List α} {e : Env} {rest : List (Nat × Nat)} {w0 w : World} {L : List Own}
    (h : opAt n ops e i = some (d, .call { callee := .builtin .append, args := #[x, y], argTypes := #[t, t] }, ty)) (hx : e.ev x = some v) (hy : e.ev y = some (.slice A1 us.length c1))
    (ht : P.underlying t = some (.slice el)) (hi : (P.info? el).map (fun i => (i.zero, i.size, i.bytes)) = some (some z, Flat.sz α, bytes)) (hz : z.cells.size = Flat.sz α)
    (hS : St w0 w (Own.of v el l :: L)) (hR : RdL w A1 us) (hb0 : Nat.blt 0 bytes = true) (hlen : (l.length + us.length) * bytes ≤ 140737488355328)
    (k : ∀ v' w1, St w0 w1 (Own.of v' el (l ++ us) :: L) → GE P n ops Q rest ((d, v') :: e) w1) : GE P n ops Q ((i, m + 2) :: rest) e w := by
  obtain ⟨o, ho, hd, hdn, hw, hp, hk, hop, hty⟩ := opAt_sound h
  obtain ⟨inf, hinf, hzz⟩ := Option.map_eq_some_iff.1 hi
  simp only [Prod.mk.injEq] at hzz
  obtain ⟨hz0, hz1, hz2⟩ := hzz
  have hb0' : 0 < bytes := by simpa [Nat.blt_eq] using hb0
  have hle : l.length + us.length ≤ 140737488355328 := Nat.le_trans (Nat.le_mul_of_pos_right _ hb0') hlen
  have hown := hS.holds _ (List.mem_cons_self ..)
  have hbs := hS.base _ (List.mem_cons_self ..)
  have key : ∃ v' w', (Builtin.append_ #[t, t] ty #[v, .slice A1 us.length c1]).run P w = .ok v' w' ∧ St w0 w' (Own.of v' el (l ++ us) :: L) := by
    rcases us with _ | ⟨u, us⟩
    · refine ⟨v, w, ?_, by simpa using hS⟩
      rcases hown.2 with ⟨rfl, h0⟩ | ⟨g, cap, cur, rfl, hg, hr⟩
      · cases A1 <;> simp [Builtin.append_, run_underlying ht, sizeOf, typeInfo, hinf, Builtin.lenOf, Builtin.firstCells, loadCells, loadCellsFrom]
      · have := hr.1
        cases A1 <;> simp [Builtin.append_, run_underlying ht, sizeOf, typeInfo, hinf, Builtin.lenOf, Builtin.firstCells, loadCells, loadCellsFrom, this, storeCells]
    · generalize hus : u :: us = us' at *
      have hpos : 0 < us'.length := by rw [← hus]; simp
      obtain ⟨b1, o1, rfl⟩ := hR.at_ hpos
      have hrow : w.ownsRow w0.heap.size el (Flat.sz α) v l.length (cellsOf l) := by
        refine ⟨hown.1.1, ?_⟩
        rcases hown.2 with h1 | ⟨g, cap, cur, rfl, hg, hr⟩
        · exact .inl h1
        · exact .inr ⟨g, cap, cur, rfl, (hbs g (by simp [Own.row, Value.ownBlock])).1, hg, hr⟩
      obtain ⟨v', w', hrun, hrow', hg, hnil, hat⟩ := run_append_own_at (P := P) w w0.heap.size t ty el inf z (Flat.sz α) bytes ht hinf hz0 hz1 hz2 hz Flat.pos v l.length (cellsOf l) hrow ⟨b1, o1, none⟩ us'.length c1 (cellsOf us') (cellsOf_length us')
        (fun j q hq => by
          have : (⟨b1, o1, none⟩ : Addr).add j = ⟨b1, o1 + j, none⟩ := by unfold Addr.add; split <;> first | rfl | simp_all
          rw [this]
          have hp := Flat.pos (α := α)
          have hjl : j < us'.length * Flat.sz α := by rw [← cellsOf_length]; exact (List.getElem?_eq_some_iff.1 hq).1
          have hd : j / Flat.sz α < us'.length := (Nat.div_lt_iff_lt_mul hp).2 hjl
          have hmod := Nat.mod_lt j hp
          have hj0 : j = (j / Flat.sz α) * Flat.sz α + j % Flat.sz α := by rw [Nat.mul_comm]; exact (Nat.div_add_mod j _).symm
          obtain ⟨u0, hu0⟩ : ∃ u, us'[j / Flat.sz α]? = some u := ⟨_, List.getElem?_eq_getElem hd⟩
          have h1 := cellsOf_get us' _ _ u0 hu0 hmod
          rw [← hj0, hq] at h1
          have h2 := Rd.cell hR b1 o1 rfl (j / Flat.sz α) (j % Flat.sz α) hd hmod
          rw [Nat.add_assoc, ← hj0] at h2
          rw [h2]
          simp only [flatF, hu0]
          rw [← h1]; rfl)
        (fun q hq => by
          obtain ⟨x, _, hx⟩ := List.mem_flatMap.1 hq
          exact List.all_eq_true.1 (Flat.one x) q hx) (by simp only [maxLen]; omega) hlen hS.below.size
      refine ⟨v', w', hrun, ?_⟩
      refine St.upd (r := Own.of v el l) hS hg.os hg.tape hg.output hg.size (fun kk hkk hne => hg.block kk hkk (fun e => hne (by simp [Own.row, ← e]))) ?_ (fun b hb => ?_)
      · refine ⟨⟨by rw [cellsOf_length], by simpa using hle⟩, ?_⟩
        rcases hrow'.2 with ⟨h1, h2⟩ | ⟨g, cap, cur, hv', _, hgg, hr⟩
        · exact absurd h2 (by omega)
        · exact .inr ⟨g, cap, cur, by simpa using hv', hgg, by simpa using hr.1, hr.2.1, hr.2.2.1, by rw [cellsOf_append]; simpa using hr.2.2.2⟩
      · have hb' : v'.ownBlock = some b := by simpa [Own.row] using hb
        have hlt : b < w'.heap.size := (hrow'.lt b hb').2
        refine ⟨?_, hlt⟩
        rcases hat with hat | hat
        · left; simp [Own.row, ← hat, hb']
        · right; rw [hb'] at hat; injection hat with hat; omega
  obtain ⟨v', w', hrun, hS'⟩ := key
  intro a hF
  unfold wpG wpOp
  simp only [ho, wantE_sound hF hw, if_true]
  refine .inl ?_
  have hex : (execOp a.eval o).run P w = .ok (.value v') w' := by
    rw [execOp_env hF hp hk]
    unfold execOp
    simp only [hop, hty, resolve, invoke, builtin, Sem.run_bind, Sem.run_pure, Result.andThen_ok, List.map_toArray, List.map_cons, List.map_nil, Env.evD, hx, hy, Option.getD_some, hrun]
  unfold Oper.wp
  rw [hex]
  simp only [Oper.upon, hd]
  exact k v' w' hS' _ (hF.put hdn _)
end

def eqBF (P : Program) (rec : TypeId → Value → Value → Option Bool) (xs ys : Array Value) : List Field → Option Bool
  | [] => some true
  | f :: fs => match f.name == "_" with
    | true => none
    | false => match trace P (part f.type xs f.offset) [], trace P (part f.type ys f.offset) [] with
      | some (a, [], []), some (b, [], []) => match rec f.type a b, eqBF P rec xs ys fs with
        | some r, some s => some (r && s)
        | _, _ => none
      | _, _ => none
def eqB (P : Program) : Nat → TypeId → Value → Value → Option Bool
  | 0, _, _, _ => none
  | d + 1, t, x, y => match P.underlying t, x, y with
    | some .bool, .bool a, .bool b => some (a == b)
    | some (.int _), .int k a, .int k' b => match decEq k k' with
      | isTrue _ => some (a == b)
      | isFalse _ => none
    | some .string, .string a, .string b => some (a.toList == b.toList)
    | some (.struct fs), .agg xs, .agg ys => match P.stoodInHeld t with
      | true => none
      | false => eqBF P (eqB P d) xs ys fs.toList
    | _, _, _ => none
section
variable {P : Program}
theorem run_of_eqBF {d : Nat} {rec : TypeId → Value → Value → Option Bool} (hrec : ∀ t x y r (w : World), rec t x y = some r → (Op.equalIn d t x y).run P w = .ok r w) {xs ys : Array Value} :
    ∀ (fs : List Field) (r : Bool) (w : World), eqBF P rec xs ys fs = some r → (Op.eqFields d xs ys fs).run P w = .ok r w
  | [], r, w, h => by simp only [eqBF, Option.some.injEq] at h; subst h; simp [Op.eqFields]
  | f :: fs, r, w, h => by
    simp only [eqBF] at h
    split at h
    · cases h
    · rename_i hn
      have hn' : f.name ≠ "_" := by intro e; simp [e] at hn
      split at h
      · rename_i a b ha hb
        split at h
        · rename_i r1 s1 hr hs
          simp only [Option.some.injEq] at h
          have h1 := run_of_trace _ ha (rfl : Goes [] w w)
          have h2 := run_of_trace _ hb (rfl : Goes [] w w)
          have h3 := hrec _ _ _ _ w hr
          have h4 := run_of_eqBF hrec fs s1 w hs
          rw [Op.eqFields]
          simp only [if_pos hn', Sem.run_bind, h1, h2, h3, Result.andThen_ok]
          subst h
          cases r1
          · simp
          · simpa using h4
        · cases h
      · cases h
theorem run_of_eqB : ∀ (d : Nat) (t : TypeId) (x y : Value) (r : Bool) (w : World), eqB P d t x y = some r → (Op.equalIn d t x y).run P w = .ok r w
  | 0, t, x, y, r, w, h => by simp [eqB] at h
  | d + 1, t, x, y, r, w, h => by
    simp only [eqB] at h
    split at h
    · rename_i a b hu
      simp only [Option.some.injEq] at h
      subst h
      exact run_equalIn_bool' w d t a b hu
    · rename_i k0 k a k' b hu
      split at h
      · rename_i hk _
        subst hk
        simp only [Option.some.injEq] at h
        subst h
        exact run_equalIn_int w d t k k0 a b hu
      · cases h
    · rename_i a b hu
      simp only [Option.some.injEq] at h
      subst h
      exact run_equalIn_string w d t a b hu
    · rename_i fs xs ys hu
      split at h
      · cases h
      · rename_i hp
        have hf : P.fieldsOf t = fs := by simp [Program.fieldsOf, hu]
        rw [run_equalIn_struct (P := P) w d t xs ys (by rw [hf]; exact hu) hp, hf]
        exact run_of_eqBF (fun t x y r w h => run_of_eqB d t x y r w h) _ r w h
    · cases h
end
section
variable {P : Program} {n : Nat} {ops : Array Oper} {Q : Exit → Act → World → Prop} [Dfs]
theorem ge_eqs {i d : Nat} {t t2 ty : TypeId} {op : BinOp} {x y : Operand} {xs ys : Array Value} {r : Bool} {v : Bool} {e : Env} {rest : List (Nat × Nat)} {w : World} (h : opAt n ops e i = some (d, .binOp op t x y t2, ty))
    (hx : e.ev x = some (.agg xs)) (hy : e.ev y = some (.agg ys)) (hg : P.eqGuardType P.depth t = false) (hr : eqB P 10000 t (.agg xs) (.agg ys) = some r) (hv : (match op with | .eql => some r | .neq => some (!r) | _ => none) = some v)
    (kk : GE P n ops Q rest ((d, .bool v) :: e) w) : GE P n ops Q ((i, 0) :: rest) e w := by
  refine ge_val h (fun o w' hop hty hxt => ?_) kk
  have hrun := run_of_eqB (P := P) 10000 t _ _ r w' hr
  cases op <;> simp only [Option.some.injEq] at hv <;> first | (cases hv; done) | skip
  · subst hv
    have h2 : (binOp .eql t (.agg xs) (.agg ys)).run P w' = .ok (.bool r) w' := by rw [run_eql_struct, hrun]; rfl
    simp only [execOp, hop, Env.evD, hx, hy, Option.getD_some, Sem.run_bind, run_eqGuard_agg w' .eql t x y xs ys hg, h2, Result.andThen_ok, Sem.run_pure]
  · subst hv
    have h2 : (binOp .neq t (.agg xs) (.agg ys)).run P w' = .ok (.bool (!r)) w' := by rw [run_neq_struct, hrun]; rfl
    simp only [execOp, hop, Env.evD, hx, hy, Option.getD_some, Sem.run_bind, run_eqGuard_agg w' .neq t x y xs ys hg, h2, Result.andThen_ok, Sem.run_pure]
/-- a slice up to a place: its room may be used -/
theorem ge_sliceHi {i d t el sz m c hn : Nat} {x y : Operand} {ty : TypeId} {A : Option Addr} {k' : IntKind} {hi : Int} {e : Env} {rest : List (Nat × Nat)} {w : World} (h : opAt n ops e i = some (d, .slice t x none (some y) none, ty))
    (hx : e.ev x = some (.slice A m c)) (hy : e.ev y = some (.int k' hi)) (hh : hi = (hn : Int)) (ht : P.underlying t = some (.slice el)) (hs : (P.info? el).map (·.size) = some sz) (hle : hn ≤ c)
    (k : GE P n ops Q rest ((d, .slice A hn c) :: e) w) : GE P n ops Q ((i, 0) :: rest) e w := by
  refine ge_val h (fun o w' hop hty hxt => ?_) k
  subst hh
  obtain ⟨inf, hi, hsz⟩ := Option.map_eq_some_iff.1 hs
  have hu : (underlying t).run P w' = .ok (.slice el) w' := by simp [underlying, ht]
  have hz : (sizeOf el).run P w' = .ok sz w' := by simp [sizeOf, typeInfo, hi, hsz]
  have hle' : (hn : Int) ≤ (c : Int) := by omega
  have hA : (if c = 0 then A else A.map (·.add (0 * sz))) = A := by
    split
    · rfl
    · rw [Nat.zero_mul]; cases A <;> rfl
  have h1 : (Instr.sliceAt t (.slice A m c) none (some (.int k' (hn : Int))) none).run P w' = .ok (.slice A hn c) w' := by
    rw [Nat.zero_mul] at hA
    simp [Instr.sliceAt, Instr.slice, Instr.sliceBounds, Instr.sliceBound, asIntOf, hu, hz, hle, hA]
  simp only [execOp, hop, Env.evD, hx, hy, Option.getD_some, Option.map_some, Option.map_none, Sem.run_bind, h1, Result.andThen_ok, Sem.run_pure]
end
theorem RdL.pre {α : Type} [Flat α] {w : World} {A : Option Addr} {l r : List α} (h : RdL w A (l ++ r)) : RdL w A l := by
  refine ⟨by have := h.small; simp at this; omega, fun hn => h.at_ (by simp; omega), fun b o e i j hi hj => ?_⟩
  have := Rd.cell h b o e i j (by simp; omega) hj
  rw [this]
  simp only [flatF]
  rw [List.getElem?_append_left hi]
theorem St.open2 {α : Type} [Flat α] {w0 w : World} {L : List Own} (h : St w0 w L) (m : Nat) {v : Value} {t : Nat} {l : List α} (hm : L[m]? = some (Own.of v t l)) : ∃ A c, v = .slice A l.length c ∧ l.length ≤ c := by
  have hh := h.holds _ (List.mem_of_getElem? hm)
  rcases hh.2 with ⟨rfl, h0⟩ | ⟨g, cap, cur, rfl, hg, hn, hc⟩
  · exact ⟨none, 0, by rw [h0], by omega⟩
  · exact ⟨_, cap, rfl, hn⟩
/-- what a package-level variable holds -/
def Glob (w : World) (g : Nat) (cs : List Value) : Prop := ∀ j v, cs[j]? = some v → w.cell? ⟨g, j, none⟩ = some v
theorem Glob.ext {w w' : World} {g : Nat} {cs : List Value} (hg : Glob w g cs) (k : Ext w w') : Glob w' g cs := fun j v hj => by
  have h0 := hg j v hj
  rw [k.cell (World.block_lt_of_cell? w _ h0)]
  exact h0
end Go.Proofs.Ytchcdadpahakfaa.GV
