/- The walker's core, fourth part: elements as plain data; append; loops over slices. Written for this work. -/
import Derived.Test.YtlipdmblinjjaaaGD3
import Derived.Maps.AppendAt
namespace Go.Proofs.Ytlipdmblinjjaaa.GV.D
open Go Go.RowKit
set_option linter.unusedVariables false
set_option linter.unusedSimpArgs false

theorem cellsOf_length {α : Type} [Flat α] (l : List α) : (cellsOf l).length = l.length * Flat.sz α := by
  induction l with
  | nil => simp [cellsOf]
  | cons x l ih =>
    have : cellsOf (x :: l) = Flat.cells x ++ cellsOf l := rfl
    rw [this, List.length_append, ih, Flat.len, List.length_cons, Nat.add_mul]
    omega
theorem cellsOf_append {α : Type} [Flat α] (l m : List α) : cellsOf (l ++ m) = cellsOf l ++ cellsOf m := by simp [cellsOf]
theorem cellsOf_get {α : Type} [Flat α] : ∀ (l : List α) (i j : Nat) (x : α), l[i]? = some x → j < Flat.sz α → (cellsOf l)[i * Flat.sz α + j]? = (Flat.cells x)[j]?
  | [], i, j, x, h, _ => by simp at h
  | y :: l, 0, j, x, h, hj => by
    simp at h
    subst h
    have : cellsOf (y :: l) = Flat.cells y ++ cellsOf l := rfl
    rw [this, Nat.zero_mul, Nat.zero_add, List.getElem?_append_left (by rw [Flat.len]; exact hj)]
  | y :: l, i + 1, j, x, h, hj => by
    have hh : cellsOf (y :: l) = Flat.cells y ++ cellsOf l := rfl
    have ih := cellsOf_get l i j x (by simpa using h) hj
    rw [hh, List.getElem?_append_right (by rw [Flat.len, Nat.add_mul]; omega), Flat.len]
    rw [show (i + 1) * Flat.sz α + j - Flat.sz α = i * Flat.sz α + j from by rw [Nat.add_mul]; omega]
    exact ih
theorem RdL.cell {α : Type} [Flat α] {w : World} {A : Option Addr} {l : List α} (h : RdL w A l) {k j : Nat} {x : α} {v : Value} (hx : l[k]? = some x) (hv : (Flat.cells x)[j]? = some v) :
    w.cell? ⟨blkOf A, offOf A + k * Flat.sz α + j, none⟩ = some v := by
  have hk : k < l.length := (List.getElem?_eq_some_iff.1 hx).1
  have hj : j < Flat.sz α := by rw [← Flat.len x]; exact (List.getElem?_eq_some_iff.1 hv).1
  have := h.get k j hk (by simpa [Nat.blt_eq] using hj)
  rw [this]
  simp [flatF, hx, hv]
theorem lt_of_get {α : Type} {l : List α} {k : Nat} {x : α} (h : l[k]? = some x) : k < l.length := (List.getElem?_eq_some_iff.1 h).1
theorem pos_of_get {α : Type} {l : List α} {k : Nat} {x : α} (h : l[k]? = some x) : 0 < l.length := Nat.lt_of_le_of_lt (Nat.zero_le _) (lt_of_get h)
theorem get_none {α : Type} {l : List α} {k : Nat} (h : l[k]? = none) : l.length ≤ k := List.getElem?_eq_none_iff.1 h
theorem RdL.nil {α : Type} [Flat α] (w : World) : RdL w none ([] : List α) := ⟨by simp, fun h => absurd h (by simp), fun b o h => by cases h⟩

theorem St.nil {α : Type} [Flat α] {w0 w : World} {L : List Own} (h : St w0 w L) (t : Nat) : St w0 w (Own.of (α := α) (.slice none 0 0) t [] :: L) := by
  refine ⟨h.below, fun r hr => ?_, fun r hr => ?_, List.Pairwise.cons (fun s _ b hb => ?_) h.apart⟩
  · rcases List.mem_cons.1 hr with rfl | hr
    · exact ⟨⟨by simp [cellsOf], by simp⟩, .inl ⟨rfl, rfl⟩⟩
    · exact h.holds r hr
  · rcases List.mem_cons.1 hr with rfl | hr
    · intro b hb; simp [Own.of, Own.row, Value.ownBlock] at hb
    · exact h.base r hr
  · simp [Own.row, Value.ownBlock] at hb
theorem St.rdOf {α : Type} [Flat α] {w0 w : World} {L : List Own} (h : St w0 w L) (m : Nat) {v : Value} {t : Nat} {l : List α} (hm : L[m]? = some (Own.of v t l)) : ∃ A c, v = .slice A l.length c ∧ RdL w A l := by
  have hh := h.holds _ (List.mem_of_getElem? hm)
  obtain ⟨h1, h2 | ⟨g, cap, cur, rfl, hg, hn, hc, hsz, htake⟩⟩ := hh
  · obtain ⟨rfl, h0⟩ := h2
    have : l = [] := List.eq_nil_of_length_eq_zero h0
    subst this
    exact ⟨none, 0, rfl, RdL.nil w⟩
  · refine ⟨_, cap, rfl, ⟨?_, fun _ => ⟨g, 0, rfl⟩, fun b o e i j hi hj => ?_⟩⟩
    · exact h1.2
    · injection e with e
      injection e with e1 e2
      subst e1
      subst e2
      rw [cell_of_row w g _ cur t (0, 0) hg]
      have hx : l[i]? = some l[i] := by simp [hi]
      have hlt : i * Flat.sz α + j < l.length * Flat.sz α := by
        calc i * Flat.sz α + j < i * Flat.sz α + Flat.sz α := by omega
          _ = (i + 1) * Flat.sz α := by rw [Nat.add_mul]; omega
          _ ≤ l.length * Flat.sz α := Nat.mul_le_mul_right _ hi
      have h3 := cellsOf_get l i j l[i] hx hj
      rw [← htake, List.getElem?_take, if_pos hlt] at h3
      simp only [Nat.zero_add]
      rw [← Array.getElem?_toList, h3]
      have hlen : j < (Flat.cells l[i]).length := by rw [Flat.len]; exact hj
      simp [flatF, hi, hlen]
theorem St.rdBlk {α : Type} [Flat α] {w0 w : World} {L : List Own} (h : St w0 w L) (m : Nat) {b t : Nat} {cs : Array Value} (l : List α) (hm : L[m]? = some (Own.blk b (.cells cs t (0, 0)))) (hc : cs = (cellsOf l).toArray) (hl : Nat.ble l.length 140737488355328 = true) : RdL w (some ⟨b, 0, none⟩) l := by
  have hb := h.holds _ (List.mem_of_getElem? hm)
  refine ⟨by simpa using hl, fun _ => ⟨b, 0, rfl⟩, fun b' o' e i j hi hj => ?_⟩
  injection e with e
  injection e with e1 e2
  subst e1
  subst e2
  rw [cell_of_row w b _ cs t (0, 0) hb, hc]
  have hx : l[i]? = some l[i] := by simp [hi]
  have h3 := cellsOf_get l i j l[i] hx hj
  have hlen : j < (Flat.cells l[i]).length := by rw [Flat.len]; exact hj
  simp only [Nat.zero_add, List.getElem?_toArray, h3]
  simp [flatF, hi, hlen]
theorem St.call {w0 w w' : World} {L M : List Own} (h : St w0 w L) (k : St w w' M) : St w0 w' (M ++ L) := by
  have hx : Ext w w' := k.below
  have h' := h.ext hx
  refine ⟨h'.below, fun r hr => ?_, fun r hr b hb => ?_, ?_⟩
  · rcases List.mem_append.1 hr with hr | hr
    · exact k.holds r hr
    · exact h'.holds r hr
  · rcases List.mem_append.1 hr with hr | hr
    · exact ⟨Nat.le_trans h.below.size (k.base r hr b hb).1, (k.base r hr b hb).2⟩
    · exact h'.base r hr b hb
  · refine List.pairwise_append.2 ⟨k.apart, h'.apart, fun r hr s hs b hbr hbs => ?_⟩
    exact Nat.lt_irrefl _ (Nat.lt_of_lt_of_le (h.base s hs b hbs).2 (k.base r hr b hbr).1)
section
variable {P : Program} {n : Nat} {ops : Array Oper} {Q : Exit → Act → World → Prop}
theorem ge_addn {i d m : Nat} {t t2 ty : TypeId} {x y : Operand} {k : IntKind} {e : Env} {rest : List (Nat × Nat)} {w : World} (h : opAt n ops e i = some (d, .binOp .add t x y t2, ty))
    (hx : e.ev x = some (.int .i64 (m : Int))) (hy : e.ev y = some (.int .i64 1)) (hm : m + 1 ≤ 9223372036854775807) (kk : GE P n ops Q rest ((d, .int .i64 ((m + 1 : Nat) : Int)) :: e) w) : GE P n ops Q ((i, 0) :: rest) e w := by
  refine ge_val h (fun o w' hop hty hxt => ?_) kk
  have hw : IntKind.i64.wrap ((m : Int) + 1) = ((m + 1 : Nat) : Int) := by rw [IntKind.wrap_i64]; omega
  simp only [execOp, hop, Env.evD, hx, hy, Option.getD_some, Sem.run_bind, eqGuard_add, Sem.run_pure, Result.andThen_ok, binOp_add, Op.intArith, hw]
theorem ge_div {i d : Nat} {t t2 ty : TypeId} {op : BinOp} {x y : Operand} {k : IntKind} {p q : Int} {v : Value} {e : Env} {rest : List (Nat × Nat)} {w : World} (h : opAt n ops e i = some (d, .binOp op t x y t2, ty))
    (hx : e.ev x = some (.int k p)) (hy : e.ev y = some (.int k q)) (hq : ¬ q = 0) (hv : (match op with | .quo => some (.int k (k.wrap (p.tdiv q))) | .rem => some (.int k (p.tmod q)) | _ => none) = some v)
    (kk : GE P n ops Q rest ((d, v) :: e) w) : GE P n ops Q ((i, 0) :: rest) e w := by
  refine ge_val h (fun o w' hop hty hxt => ?_) kk
  cases op <;> simp only [Option.some.injEq] at hv <;> first | (cases hv; done) | skip
  · subst hv; simp [execOp, hop, Env.evD, hx, hy, eqGuard_quo, binOp_quo, Op.intDiv, hq]
  · subst hv; simp [execOp, hop, Env.evD, hx, hy, eqGuard_rem, binOp_rem, Op.intDiv, hq]
theorem ge_off {i d m : Nat} {o : Oper} {e : Env} {rest : List (Nat × Nat)} {w : World} (ho : ops[i]? = some o) (hd : o.dst = some d) (hdn : Nat.blt d n = true) (hw : wantE ops e o = some false) (k : GE P n ops Q rest ((d, undef) :: e) w) : GE P n ops Q ((i, m + 1) :: rest) e w := by
  intro a hF
  have hwant := wantE_sound hF hw
  cases m with
  | zero =>
    unfold wpG wpOp
    simp only [ho, hwant, Bool.false_eq_true, if_false, hd]
    exact ⟨Ext.refl w, k _ (hF.put hdn _)⟩
  | succ m =>
    unfold wpG wpOp
    simp only [ho, hwant, Bool.false_eq_true, if_false, hd]
    exact k _ (hF.put hdn _)
end
end Go.Proofs.Ytlipdmblinjjaaa.GV.D
