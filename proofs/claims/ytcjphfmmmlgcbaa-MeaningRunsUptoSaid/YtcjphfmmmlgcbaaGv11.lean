/- The walker's core, eleventh part: a row that is the caller's, cleared to its room's end. Written for this work. -/
import Derived.Test.YtcjphfmmmlgcbaaGv10
namespace Go.Proofs.Ytcjphfmmmlgcbaa.GV
open Go Go.RowKit
set_option linter.unusedVariables false
set_option linter.unusedSimpArgs false
theorem trace_storeCells {P : Program} {b : Nat} : ∀ (vs : List Value) (j : Nat), trace P (storeCells ⟨b, 0, none⟩ vs j) [] = some ((), didStores b j vs, [])
  | [], j => rfl
  | v :: r, j => by
    have ih := trace_storeCells (P := P) (b := b) r (j + 1)
    have ha : (⟨b, 0, none⟩ : Addr).add j = ⟨b, j, none⟩ := by unfold Addr.add; split <;> simp_all
    have h0 : storeCells ⟨b, 0, none⟩ (v :: r) j = Sem.store .plain ((⟨b, 0, none⟩ : Addr).add j) v (storeCells ⟨b, 0, none⟩ r (j + 1)) := by rw [storeCells]; rfl
    rw [h0, trace, ih, ha]
    rfl
/-- a row as its block -/
theorem St.toBlk {α : Type} [Flat α] {w0 w : World} {L : List Own} {A : Option Addr} {n c t : Nat} {l : List α} (h : St w0 w (Own.of (.slice A n c) t l :: L)) :
    (A = none ∧ c = 0 ∧ St w0 w L) ∨ ∃ g cs, A = some ⟨g, 0, none⟩ ∧ cs.size = c * Flat.sz α ∧ St w0 w (Own.blk g (.cells cs t (0, 0)) :: L) := by
  have hown := h.holds _ (List.mem_cons_self ..)
  rcases hown.2 with ⟨hv, h0⟩ | ⟨g, cap, cur, hv, hg, hn, hcap, hsz, htake⟩
  · injection hv with hA hn hc
    exact .inl ⟨hA, hc, h.tail⟩
  · injection hv with hA hn' hc
    subst hA; subst hc
    refine .inr ⟨g, cur, rfl, hsz, h.below, fun r hr => ?_, fun r hr b hb => ?_, ?_⟩
    · rcases List.mem_cons.1 hr with rfl | hr
      · exact hg
      · exact h.holds r (List.mem_cons_of_mem _ hr)
    · rcases List.mem_cons.1 hr with rfl | hr
      · have : b = g := by simpa [Own.blk] using hb
        subst this
        exact h.base _ (List.mem_cons_self ..) b (by simp [Own.row, Value.ownBlock])
      · exact h.base r (List.mem_cons_of_mem _ hr) b hb
    · obtain ⟨h1, h2⟩ := List.pairwise_cons.1 h.apart
      refine List.Pairwise.cons (fun s hs b hb => ?_) h2
      have : b = g := by simpa [Own.blk] using hb
      subst this
      exact h1 s hs b (by simp [Own.row, Value.ownBlock])
section
variable {P : Program} {n : Nat} {ops : Array Oper} {Q : Exit → Act → World → Prop} [Dfs]
/-- what stands at i, and goes nowhere -/
def opNo (ops : Array Oper) (e : Env) (i : Nat) : Option (Op × TypeId) :=
  match ops[i]? with
  | none => none
  | some o => match wantE ops e o with
    | some true => match o.dst with
      | some _ => none
      | none => match plainOp o.op && o.op.operands.all (known e) with
        | true => some (o.op, o.type)
        | false => none
    | _ => none
end
section
variable {P : Program} {n : Nat} {ops : Array Oper} {Q : Exit → Act → World → Prop}
theorem opNo_sound {e : Env} {i : Nat} {op : Op} {ty : TypeId} (h : opNo ops e i = some (op, ty)) : ∃ o, ops[i]? = some o ∧ o.dst = none ∧ wantE ops e o = some true ∧ plainOp o.op = true ∧ o.op.operands.all (known e) = true ∧ o.op = op ∧ o.type = ty := by
  unfold opNo at h
  split at h
  · cases h
  · rename_i o ho
    split at h
    · rename_i hw
      split at h
      · cases h
      · rename_i hd
        split at h
        · rename_i hc
          simp only [Bool.and_eq_true] at hc
          simp only [Option.some.injEq, Prod.mk.injEq] at h
          obtain ⟨rfl, rfl⟩ := h
          exact ⟨o, ho, hd, hw, hc.1, hc.2, rfl, rfl⟩
        · cases h
    · cases h
end
section
variable {P : Program} {n : Nat} {ops : Array Oper} {Q : Exit → Act → World → Prop} [Dfs]
end
section
variable {P : Program} {n : Nat} {ops : Array Oper} {Q : Exit → Act → World → Prop}
theorem zeroCells_one {cs : Array Value} (h : oneCells cs.toList = true) (n : Nat) : oneCells (Builtin.zeroCells cs n).toList = true := by
  refine List.all_eq_true.2 fun v hv => ?_
  simp only [Builtin.zeroCells, Array.toList_map, List.mem_map, Array.mem_toList_iff, Array.mem_range] at hv
  obtain ⟨i, hi, rfl⟩ := hv
  have hp : 0 < cs.size := by
    rcases Nat.eq_zero_or_pos cs.size with h0 | h0
    · rw [h0, Nat.mul_zero] at hi; omega
    · exact h0
  have hlt := Nat.mod_lt i hp
  rw [getElem!_pos cs _ hlt]
  exact List.all_eq_true.1 h _ (by simp)
end
section
variable {P : Program} {n : Nat} {ops : Array Oper} {Q : Exit → Act → World → Prop} [Dfs]
theorem ge_clear {α : Type} [Flat α] {i m t el c k bytes : Nat} {x : Operand} {ty : TypeId} {A : Option Addr} {z : Value} {l : List α} {e : Env} {rest : List (Nat × Nat)} {w0 w : World} {L : List Own}
    (h : opNo ops e i = some (.call { callee := .builtin .clear, args := #[x], argTypes := #[t] }, ty)) (hx : e.ev x = some (.slice A c c)) (ht : P.underlying t = some (.slice el)) (hi : (P.info? el).map (fun i => (i.zero, i.size, i.bytes)) = some (some z, Flat.sz α, bytes))
    (hz : z.cells.size = Flat.sz α) (hz1 : oneCells z.cells.toList = true) (hS : St w0 w (Own.of (.slice A k c) el l :: L)) (kk : ∀ w1, St w0 w1 L → GE P n ops Q rest e w1) : GE P n ops Q ((i, m + 2) :: rest) e w := by
  obtain ⟨o, ho, hd, hw, hp, hk, hop, hty⟩ := opNo_sound h
  obtain ⟨inf, hinf, hzz⟩ := Option.map_eq_some_iff.1 hi
  simp only [Prod.mk.injEq] at hzz
  obtain ⟨hz0, hz1', hz2⟩ := hzz
  have key : ∃ w', (Builtin.clear_ #[t] ty #[.slice A c c]).run P w = .ok (.tuple #[]) w' ∧ St w0 w' L := by
    rcases hS.toBlk with ⟨rfl, rfl, hS'⟩ | ⟨g, cs, rfl, hsz, hS'⟩
    · exact ⟨w, by simp [Builtin.clear_, run_underlying ht], hS'⟩
    · rcases Nat.eq_zero_or_pos c with rfl | hc
      · exact ⟨w, by simp [Builtin.clear_, run_underlying ht], hS'.tail⟩
      · obtain ⟨c', rfl⟩ : ∃ c', c = c' + 1 := ⟨c - 1, by omega⟩
        have hlen : (Builtin.zeroCells z.cells (c' + 1)).toList.length = (c' + 1) * Flat.sz α := by simp [Builtin.zeroCells, hz]
        have hg := goes_stores (Builtin.zeroCells z.cells (c' + 1)).toList 0 hS' (by rw [hlen, hsz]; omega) (zeroCells_one hz1 _)
        have hrun := run_of_trace (P := P) _ (trace_storeCells (P := P) (b := g) (Builtin.zeroCells z.cells (c' + 1)).toList 0) hg
        have hzv : (zeroValue el).run P w = .ok z w := by simp [zeroValue, typeInfo, hinf, hz0]
        refine ⟨_, ?_, (hS'.sets (Builtin.zeroCells z.cells (c' + 1)).toList 0).tail⟩
        simp [Builtin.clear_, run_underlying ht, hzv, hrun]
  obtain ⟨w', hrun, hS'⟩ := key
  intro a hF
  unfold wpG wpOp
  simp only [ho, wantE_sound hF hw, if_true]
  refine .inl ?_
  have hex : (execOp a.eval o).run P w = .ok (.value (.tuple #[])) w' := by
    rw [execOp_env hF hp hk]
    unfold execOp
    simp only [hop, hty, resolve, invoke, builtin, Sem.run_bind, Sem.run_pure, Result.andThen_ok, List.map_toArray, List.map_cons, List.map_nil, Env.evD, hx, Option.getD_some, hrun]
  unfold Oper.wp
  rw [hex]
  simp only [Oper.upon, hd, Act.put]
  exact kk w' hS' _ hF
end
end Go.Proofs.Ytcjphfmmmlgcbaa.GV
