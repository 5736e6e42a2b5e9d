/- The walker's core, twelfth part: strings ranged over. Written for this work. -/
import Derived.Test.YtlipdmblinjjaaaGv11
namespace Go.Proofs.Ytlipdmblinjjaaa.GV
open Go Go.RowKit
set_option linter.unusedVariables false
set_option linter.unusedSimpArgs false
section
variable {P : Program} {n : Nat} {ops : Array Oper} {Q : Exit → Act → World → Prop}
theorem ge_next {i d b m : Nat} {x : Operand} {ty : TypeId} {s : ByteArray} {pos : Nat} {e : Env} {rest : List (Nat × Nat)} {w0 w : World} {L : List Own} (h : opAt n ops e i = some (d, .next x true, ty))
    (hx : e.ev x = some (.pointer (some ⟨b, 0, none⟩))) (hS : St w0 w (Own.blk b (.stringIter s pos) :: L))
    (k1 : pos < s.size → ∀ w1, St w0 w1 (Own.blk b (.stringIter s (pos + (Utf8.decode s pos).2)) :: L) → GE P n ops Q rest ((d, .tuple #[.bool true, .int .i64 (pos : Int), .int .i32 (Utf8.decode s pos).1]) :: e) w1)
    (k2 : ¬ pos < s.size → GE P n ops Q rest ((d, .tuple #[.bool false]) :: e) w) : GE P n ops Q ((i, m + 2) :: rest) e w := by
  obtain ⟨o, ho, hd, hdn, hw, hp, hk, hop, hty⟩ := opAt_sound h
  have hb : w.heap[b]? = some (.stringIter s pos) := hS.holds (Own.blk b (.stringIter s pos)) (by simp)
  have hlt := (hS.base _ (List.mem_cons_self ..) b (by simp [Own.blk])).2
  intro a hF
  unfold wpG wpOp
  simp only [ho, wantE_sound hF hw, if_true]
  refine .inl ?_
  unfold Oper.wp
  rw [execOp_env hF hp hk]
  by_cases hpos : pos < s.size
  · have hS' : St w0 { w with heap := w.heap.setIfInBounds b (.stringIter s (pos + (Utf8.decode s pos).2)) } (Own.blk b (.stringIter s (pos + (Utf8.decode s pos).2)) :: L) := by
      refine hS.upd rfl rfl rfl (by simp) (fun k hk hne => ?_) ?_ (fun b' hb' => ?_)
      · have : b ≠ k := fun e => hne (by simp [Own.blk, e])
        simp [Array.getElem?_setIfInBounds, this]
      · simp [Own.blk, hlt]
      · have : b' = b := by simpa [Own.blk] using hb'
        subst this
        exact ⟨.inl (by simp [Own.blk]), by simpa using hlt⟩
    have hex : (execOp e.evD o).run P w = .ok (.value (.tuple #[.bool true, .int .i64 (pos : Int), .int .i32 (Utf8.decode s pos).1])) { w with heap := w.heap.setIfInBounds b (.stringIter s (pos + (Utf8.decode s pos).2)) } := by
      unfold execOp
      simp only [hop, Env.evD, hx, Option.getD_some, Instr.next, Sem.run_bind]
      simp [getObj, setObj, Sem.run, hb, hpos, Result.andThen, goInt]
    rw [hex]
    simp only [Oper.upon, hd]
    exact k1 hpos _ hS' _ (hF.put hdn _)
  · have hex : (execOp e.evD o).run P w = .ok (.value (.tuple #[.bool false])) w := by
      unfold execOp
      simp only [hop, Env.evD, hx, Option.getD_some, Instr.next, Sem.run_bind]
      simp [getObj, setObj, Sem.run, hb, hpos, Result.andThen, goInt]
    rw [hex]
    simp only [Oper.upon, hd]
    exact k2 hpos _ (hF.put hdn _)
end
end Go.Proofs.Ytlipdmblinjjaaa.GV
