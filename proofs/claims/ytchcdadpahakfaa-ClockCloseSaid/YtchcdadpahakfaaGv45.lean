/- The walker's core, 45th part: copy. Written for this work. -/
import Derived.Test.YtchcdadpahakfaaGv24
import Derived.Laws.CopyRow
import Derived.Laws.IdiomCopy
namespace Go.Proofs.Ytchcdadpahakfaa.GV
open Go Go.RowKit
set_option linter.unusedVariables false
set_option linter.unusedSimpArgs false
theorem cells_int : ∀ l : List Int, cellsOf l = l.map (Value.int .i64)
  | [] => rfl
  | x :: r => by rw [List.map_cons, ← cells_int r]; rfl
theorem addr_add (b off j : Nat) : (⟨b, off, none⟩ : Addr).add j = ⟨b, off + j, none⟩ := by unfold Addr.add; split <;> simp_all
section
variable {P : Program} {n : Nat} {ops : Array Oper} {Q : Exit → Act → World → Prop} [Dfs]
theorem ge_copy {i d m t t2 el c c2 : Nat} {x y : Operand} {ty : TypeId} {A B : Option Addr} {dst src : List Int} {e : Env} {rest : List (Nat × Nat)} {w0 w : World} {L : List Own}
    (h : opAt n ops e i = some (d, .call { callee := .builtin .copy, args := #[x, y], argTypes := #[t, t2] }, ty)) (hx : e.ev x = some (.slice A dst.length c)) (hy : e.ev y = some (.slice B src.length c2))
    (ht : P.underlying t = some (.slice el)) (hi : (P.info? el).map (·.size) = some 1) (hS : St w0 w (Own.of (.slice A dst.length c) el dst :: L)) (hR : RdL w B src)
    (k : ∀ w1, dst.length = (src.take dst.length ++ dst.drop src.length).length → St w0 w1 (Own.of (.slice A (src.take dst.length ++ dst.drop src.length).length c) el (src.take dst.length ++ dst.drop src.length) :: L) → GE P n ops Q rest ((d, .int .i64 ((Nat.min src.length dst.length : Nat) : Int)) :: e) w1) : GE P n ops Q ((i, m + 2) :: rest) e w := by
  obtain ⟨o, ho, hd, hdn, hw, hp, hk, hop, hty⟩ := opAt_sound h
  have hlen : dst.length = (src.take dst.length ++ dst.drop src.length).length := by simp only [List.length_append, List.length_take, List.length_drop]; omega
  have key : ∃ w1, (Builtin.copy_ #[t, t2] ty #[.slice A dst.length c, .slice B src.length c2]).run P w = .ok (.int .i64 ((Nat.min src.length dst.length : Nat) : Int)) w1 ∧ St w0 w1 (Own.of (.slice A (src.take dst.length ++ dst.drop src.length).length c) el (src.take dst.length ++ dst.drop src.length) :: L) := by
    by_cases h0 : Nat.min src.length dst.length = 0
    · have hr := run_copy_none (P := P) w t t2 ty el A B dst.length c src.length c2 ht hi h0
      refine ⟨w, by rw [hr, h0]; rfl, ?_⟩
      have : src.take dst.length ++ dst.drop src.length = dst := by
        have : src.length = 0 ∨ dst.length = 0 := by
          have : Nat.min src.length dst.length = min src.length dst.length := rfl
          omega
        rcases this with e | e
        · have := List.eq_nil_of_length_eq_zero e; subst this; simp
        · have := List.eq_nil_of_length_eq_zero e; subst this; simp
      rw [this]; exact hS
    · have hmin : Nat.min src.length dst.length = min src.length dst.length := rfl
      have hown := hS.holds _ (List.mem_cons_self ..)
      obtain ⟨⟨q1, q2⟩, h2 | ⟨g, cap, cur, hv, hg, hn, hc, hsz, htk⟩⟩ := hown
      · have := h2.2; omega
      injection hv with hA hl2 hcc
      subst hA; subst hcc
      obtain ⟨b, off, hB⟩ := hR.at_ (show 0 < src.length by omega)
      subst hB
      have hlt := (hS.base _ (List.mem_cons_self ..) g (by simp [Own.row, Value.ownBlock])).2
      have hsz' : cur.size = c := by rw [hsz]; exact Nat.mul_one c
      have htk' : cur.toList.take dst.length = dst.map (Value.int .i64) := by
        have e1 : dst.length * Flat.sz Int = dst.length := Nat.mul_one _
        rw [e1, cells_int] at htk; exact htk
      have hr := run_copy_row (P := P) w t t2 ty el g 0 dst.length c ⟨b, off, none⟩ src.length c2 cur el ((src.take dst.length).map (Value.int .i64)) ht hi hg (by rw [List.length_map, List.length_take, hmin]; omega)
        (fun j v hj => by
          rw [List.getElem?_map] at hj
          obtain ⟨z, hz, rfl⟩ := Option.map_eq_some_iff.1 hj
          have hz' : src[j]? = some z := by
            have := List.getElem?_take (l := src) (i := dst.length) (j := j)
            rw [this] at hz
            split at hz
            · exact hz
            · cases hz
          have := hR.cell (j := 0) (v := .int .i64 z) hz' rfl
          have e : (⟨b, off, none⟩ : Addr).add j = ⟨blkOf (some ⟨b, off, none⟩), offOf (some ⟨b, off, none⟩) + j * Flat.sz Int + 0, none⟩ := by
            show _ = (⟨b, off + j * 1 + 0, none⟩ : Addr)
            rw [Nat.mul_one, Nat.add_zero, addr_add]
          rw [e]; exact this)
        (by rw [List.length_map, List.length_take]; omega) (fun v hv => by obtain ⟨z, _, rfl⟩ := List.mem_map.1 hv; rfl)
      have hl4 : ((src.take dst.length).map (Value.int .i64)).length = Nat.min src.length dst.length := by rw [List.length_map, List.length_take, hmin]; omega
      rw [hl4] at hr
      refine ⟨_, hr, ?_⟩
      · rw [← hl4]
        refine hS.upd rfl rfl rfl (by simp) (fun k hk hne => setRow_other w g k _ (fun e => hne (by simp [Own.row, Value.ownBlock, e]))) ?_ (fun x hx => ?_)
        · refine ⟨⟨by rw [cellsOf_length], by rw [← hlen]; exact q2⟩, .inr ⟨g, c, _, rfl, setRow_heap w g cur _ el _ hg, by rw [← hlen]; exact hn, hc, ?_, ?_⟩⟩
          · simp only [List.size_toArray, List.length_append, List.length_take, List.length_drop, List.length_map, Array.length_toList]
            rw [← hsz]; omega
          · have e1 : dst.length * Flat.sz Int = dst.length := Nat.mul_one _
            rw [← hlen, e1, cells_int, List.map_append]
            simp only [List.take_zero, List.nil_append, Nat.zero_add]
            rw [List.take_append]
            have l1 : ((src.take dst.length).map (Value.int .i64)).length = min dst.length src.length := by rw [List.length_map, List.length_take]
            rw [List.take_of_length_le (by rw [l1]; omega), l1]
            congr 1
            have : (cur.toList.drop (min dst.length src.length)).take (dst.length - min dst.length src.length) = (cur.toList.take dst.length).drop (min dst.length src.length) := by rw [List.drop_take]
            rw [this, htk', List.map_drop]
            by_cases hh : src.length ≤ dst.length
            · rw [Nat.min_eq_right hh]
            · rw [List.drop_of_length_le (by rw [List.length_map]; omega), List.drop_of_length_le (by rw [List.length_map]; omega)]
        · have : x = g := by simpa [Own.row, Value.ownBlock, eq_comm] using hx
          subst this
          exact ⟨.inl (by simp [Own.row, Value.ownBlock]), by simpa using hlt⟩
  obtain ⟨w1, hrun, hS1⟩ := key
  intro a hF
  unfold wpG wpOp
  simp only [ho, wantE_sound hF hw, if_true]
  refine .inl ?_
  have hex : (execOp a.eval o).run P w = .ok (.value (.int .i64 ((Nat.min src.length dst.length : Nat) : Int))) w1 := by
    rw [execOp_env hF hp hk]
    unfold execOp
    simp only [hop, hty, resolve, invoke, builtin, Sem.run_bind, Sem.run_pure, Result.andThen_ok, List.map_toArray, List.map_cons, List.map_nil, Env.evD, hx, hy, Option.getD_some, hrun]
  unfold Oper.wp
  rw [hex]
  simp only [Oper.upon, hd]
  exact k w1 hlen hS1 _ (hF.put hdn _)
end
end Go.Proofs.Ytchcdadpahakfaa.GV
