/- The walker's core, fourth part: elements as plain data; append; loops over slices. Written for this work. -/
import Derived.Test.YtchcdadpahakfaaGv3
import Derived.Maps.AppendAt
namespace Go.Proofs.Ytchcdadpahakfaa.GV
open Go Go.RowKit
set_option linter.unusedVariables false
set_option linter.unusedSimpArgs false

/-- plain data that takes a fixed number of cells -/
class Flat (α : Type) where
  sz : Nat
  cells : α → List Value
  len : ∀ x, (cells x).length = sz
  one : ∀ x, oneCells (cells x) = true
  pos : 0 < sz
instance : Flat Int := ⟨1, fun x => [.int .i64 x], fun _ => rfl, fun _ => rfl, by decide⟩
instance : Flat Bool := ⟨1, fun x => [.bool x], fun _ => rfl, fun _ => rfl, by decide⟩
instance : Flat ByteArray := ⟨1, fun x => [.string x], fun _ => rfl, fun _ => rfl, by decide⟩
def flatF {α : Type} [Flat α] (l : List α) (i j : Nat) : Value := match l[i]? with | some x => ((Flat.cells x)[j]?).getD undef | none => undef
def cellsOf {α : Type} [Flat α] (l : List α) : List Value := l.flatMap Flat.cells
theorem cellsOf_length {α : Type} [Flat α] (l : List α) : (cellsOf l).length = l.length * Flat.sz α := by
  induction l with
  | nil => simp [cellsOf]
  | cons x l ih =>
    have : cellsOf (x :: l) = Flat.cells x ++ cellsOf l := rfl
    rw [this, List.length_append, ih, Flat.len, List.length_cons, Nat.add_mul]
    omega
theorem cellsOf_append {α : Type} [Flat α] (l m : List α) : cellsOf (l ++ m) = cellsOf l ++ cellsOf m := by simp [cellsOf]
theorem cellsOf_get {α : Type} [Flat α] : ∀ (l : List α) (i j : Nat) (x : α), l[i]? = some x → j < Flat.sz α → (cellsOf l)[i * Flat.sz α + j]? = (Flat.cells x)[j]?
  | [], i, j, x, h, _ => by simp at h
  | y :: l, 0, j, x, h, hj => by
    simp at h
    subst h
    have : cellsOf (y :: l) = Flat.cells y ++ cellsOf l := rfl
    rw [this, Nat.zero_mul, Nat.zero_add, List.getElem?_append_left (by rw [Flat.len]; exact hj)]
  | y :: l, i + 1, j, x, h, hj => by
    have hh : cellsOf (y :: l) = Flat.cells y ++ cellsOf l := rfl
    have ih := cellsOf_get l i j x (by simpa using h) hj
    rw [hh, List.getElem?_append_right (by rw [Flat.len, Nat.add_mul]; omega), Flat.len]
    rw [show (i + 1) * Flat.sz α + j - Flat.sz α = i * Flat.sz α + j from by rw [Nat.add_mul]; omega]
    exact ih
abbrev RdL {α : Type} [Flat α] (w : World) (A : Option Addr) (l : List α) : Prop := Rd w A l.length (Flat.sz α) (flatF l)
theorem RdL.cell {α : Type} [Flat α] {w : World} {A : Option Addr} {l : List α} (h : RdL w A l) {k j : Nat} {x : α} {v : Value} (hx : l[k]? = some x) (hv : (Flat.cells x)[j]? = some v) :
    w.cell? ⟨blkOf A, offOf A + k * Flat.sz α + j, none⟩ = some v := by
  have hk : k < l.length := (List.getElem?_eq_some_iff.1 hx).1
  have hj : j < Flat.sz α := by rw [← Flat.len x]; exact (List.getElem?_eq_some_iff.1 hv).1
  have := h.get k j hk (by simpa [Nat.blt_eq] using hj)
  rw [this]
  simp [flatF, hx, hv]
theorem lt_of_get {α : Type} {l : List α} {k : Nat} {x : α} (h : l[k]? = some x) : k < l.length := (List.getElem?_eq_some_iff.1 h).1
theorem pos_of_get {α : Type} {l : List α} {k : Nat} {x : α} (h : l[k]? = some x) : 0 < l.length := Nat.lt_of_le_of_lt (Nat.zero_le _) (lt_of_get h)
theorem RdL.nil {α : Type} [Flat α] (w : World) : RdL w none ([] : List α) := ⟨by simp, fun h => absurd h (by simp), fun b o h => by cases h⟩

/-- a slice of plain data that is owned -/
abbrev Own.of {α : Type} [Flat α] (v : Value) (t : Nat) (l : List α) : Own := Own.row v t (Flat.sz α) l.length (cellsOf l)
theorem St.nil {α : Type} [Flat α] {w0 w : World} {L : List Own} (h : St w0 w L) (t : Nat) : St w0 w (Own.of (α := α) (.slice none 0 0) t [] :: L) := by
  refine ⟨h.below, fun r hr => ?_, fun r hr => ?_, List.Pairwise.cons (fun s _ b hb => ?_) h.apart⟩
  · rcases List.mem_cons.1 hr with rfl | hr
    · exact ⟨⟨by simp [cellsOf], by simp⟩, .inl ⟨rfl, rfl⟩⟩
    · exact h.holds r hr
  · rcases List.mem_cons.1 hr with rfl | hr
    · intro b hb; simp [Own.of, Own.row, Value.ownBlock] at hb
    · exact h.base r hr
  · simp [Own.row, Value.ownBlock] at hb
/-- its value's shape, and how it reads -/
theorem St.rdOf {α : Type} [Flat α] {w0 w : World} {L : List Own} (h : St w0 w L) (m : Nat) {v : Value} {t : Nat} {l : List α} (hm : L[m]? = some (Own.of v t l)) : ∃ A c, v = .slice A l.length c ∧ RdL w A l := by
  have hh := h.holds _ (List.mem_of_getElem? hm)
  obtain ⟨h1, h2 | ⟨g, cap, cur, rfl, hg, hn, hc, hsz, htake⟩⟩ := hh
  · obtain ⟨rfl, h0⟩ := h2
    have : l = [] := List.eq_nil_of_length_eq_zero h0
    subst this
    exact ⟨none, 0, rfl, RdL.nil w⟩
  · refine ⟨_, cap, rfl, ⟨?_, fun _ => ⟨g, 0, rfl⟩, fun b o e i j hi hj => ?_⟩⟩
    · exact h1.2
    · injection e with e
      injection e with e1 e2
      subst e1
      subst e2
      rw [cell_of_row w g _ cur t (0, 0) hg]
      have hx : l[i]? = some l[i] := by simp [hi]
      have hlt : i * Flat.sz α + j < l.length * Flat.sz α := by
        calc i * Flat.sz α + j < i * Flat.sz α + Flat.sz α := by omega
          _ = (i + 1) * Flat.sz α := by rw [Nat.add_mul]; omega
          _ ≤ l.length * Flat.sz α := Nat.mul_le_mul_right _ hi
      have h3 := cellsOf_get l i j l[i] hx hj
      rw [← htake, List.getElem?_take, if_pos hlt] at h3
      simp only [Nat.zero_add]
      rw [← Array.getElem?_toList, h3]
      have hlen : j < (Flat.cells l[i]).length := by rw [Flat.len]; exact hj
      simp [flatF, hi, hlen]
/-- a block whose cells are those of plain data reads as such -/
theorem St.rdBlk {α : Type} [Flat α] {w0 w : World} {L : List Own} (h : St w0 w L) (m : Nat) {b t : Nat} {cs : Array Value} (l : List α) (hm : L[m]? = some (Own.blk b (.cells cs t (0, 0)))) (hc : cs = (cellsOf l).toArray) (hl : Nat.ble l.length 140737488355328 = true) : RdL w (some ⟨b, 0, none⟩) l := by
  have hb := h.holds _ (List.mem_of_getElem? hm)
  refine ⟨by simpa using hl, fun _ => ⟨b, 0, rfl⟩, fun b' o' e i j hi hj => ?_⟩
  injection e with e
  injection e with e1 e2
  subst e1
  subst e2
  rw [cell_of_row w b _ cs t (0, 0) hb, hc]
  have hx : l[i]? = some l[i] := by simp [hi]
  have h3 := cellsOf_get l i j l[i] hx hj
  have hlen : j < (Flat.cells l[i]).length := by rw [Flat.len]; exact hj
  simp only [Nat.zero_add, List.getElem?_toArray, h3]
  simp [flatF, hi, hlen]
/-- a callee's own, beside what was owned -/
theorem St.call {w0 w w' : World} {L M : List Own} (h : St w0 w L) (k : St w w' M) : St w0 w' (M ++ L) := by
  have hx : Ext w w' := k.below
  have h' := h.ext hx
  refine ⟨h'.below, fun r hr => ?_, fun r hr b hb => ?_, ?_⟩
  · rcases List.mem_append.1 hr with hr | hr
    · exact k.holds r hr
    · exact h'.holds r hr
  · rcases List.mem_append.1 hr with hr | hr
    · exact ⟨Nat.le_trans h.below.size (k.base r hr b hb).1, (k.base r hr b hb).2⟩
    · exact h'.base r hr b hb
  · refine List.pairwise_append.2 ⟨k.apart, h'.apart, fun r hr s hs b hbr hbs => ?_⟩
    exact Nat.lt_irrefl _ (Nat.lt_of_lt_of_le (h.base s hs b hbs).2 (k.base r hr b hbr).1)
section
variable {P : Program} {n : Nat} {ops : Array Oper} {Q : Exit → Act → World → Prop} [Dfs]
theorem ge_append' {α : Type} [Flat α] {i d m t el bytes c1 b1 : Nat} {x y : Operand} {ty : TypeId} {v z : Value} {l : List α} {u : α} {e : Env} {rest : List (Nat × Nat)} {w0 w : World} {L : List Own}
    (h : opAt n ops e i = some (d, .call { callee := .builtin .append, args := #[x, y], argTypes := #[t, t] }, ty)) (hx : e.ev x = some v) (hy : e.ev y = some (.slice (some ⟨b1, 0, none⟩) 1 c1))
    (ht : P.underlying t = some (.slice el)) (hi : (P.info? el).map (fun i => (i.zero, i.size, i.bytes)) = some (some z, Flat.sz α, bytes)) (hz : z.cells.size = Flat.sz α)
    (hS : St w0 w (Own.of v el l :: Own.blk b1 (.cells (Flat.cells u).toArray el (0, 0)) :: L)) (hle : l.length + 1 ≤ 140737488355328) (hlen : (l.length + 1) * bytes ≤ 140737488355328)
    (k : ∀ v' w1, St w0 w1 (Own.of v' el (l ++ [u]) :: L) → GE P n ops Q rest ((d, v') :: e) w1) : GE P n ops Q ((i, m + 2) :: rest) e w := by
  obtain ⟨o, ho, hd, hdn, hw, hp, hk, hop, hty⟩ := opAt_sound h
  obtain ⟨inf, hinf, hzz⟩ := Option.map_eq_some_iff.1 hi
  simp only [Prod.mk.injEq] at hzz
  obtain ⟨hz0, hz1, hz2⟩ := hzz
  have hown := hS.holds _ (List.mem_cons_self ..)
  have hbs := hS.base _ (List.mem_cons_self ..)
  have hb1 : w.heap[b1]? = some (.cells (Flat.cells u).toArray el (0, 0)) := hS.holds (Own.blk b1 (.cells (Flat.cells u).toArray el (0, 0))) (by simp)
  have hrow : w.ownsRow w0.heap.size el (Flat.sz α) v l.length (cellsOf l) := by
    refine ⟨hown.1.1, ?_⟩
    rcases hown.2 with h1 | ⟨g, cap, cur, rfl, hg, hr⟩
    · exact .inl h1
    · exact .inr ⟨g, cap, cur, rfl, (hbs g (by simp [Own.row, Value.ownBlock])).1, hg, hr⟩
  obtain ⟨v', w', hrun, hrow', hg, hnil, hat⟩ := run_append_own_at (P := P) w w0.heap.size t ty el inf z (Flat.sz α) bytes ht hinf hz0 hz1 hz2 hz Flat.pos v l.length (cellsOf l) hrow ⟨b1, 0, none⟩ 1 c1 (Flat.cells u) (by rw [Flat.len, Nat.one_mul])
    (fun j q hq => by
      have : (⟨b1, 0, none⟩ : Addr).add j = ⟨b1, j, none⟩ := by unfold Addr.add; split <;> simp_all
      rw [this, cell_of_row w b1 j _ el (0, 0) hb1]
      simpa using hq)
    (fun q hq => by have := Flat.one u; exact List.all_eq_true.1 this q hq) (by simp only [maxLen]; omega) hlen hS.below.size
  have hcell : cellsOf (l ++ [u]) = cellsOf l ++ Flat.cells u := by rw [cellsOf_append]; simp [cellsOf]
  have hS' : St w0 w' (Own.of v' el (l ++ [u]) :: L) := by
    refine St.upd (r := Own.of v el l) (hS.bring 1 rfl).tail hg.os hg.tape hg.output hg.size (fun kk hkk hne => hg.block kk hkk (fun e => hne (by simp [Own.row, ← e]))) ?_ (fun b hb => ?_)
    · refine ⟨⟨by rw [cellsOf_length], by simpa using hle⟩, ?_⟩
      rcases hrow'.2 with ⟨h1, h2⟩ | ⟨g, cap, cur, hv', _, hgg, hr⟩
      · exact absurd h2 (by simp)
      · exact .inr ⟨g, cap, cur, by simpa using hv', hgg, by simpa using hr.1, hr.2.1, hr.2.2.1, by rw [hcell]; simpa using hr.2.2.2⟩
    · have hb' : v'.ownBlock = some b := by simpa [Own.row] using hb
      have hlt : b < w'.heap.size := (hrow'.lt b hb').2
      refine ⟨?_, hlt⟩
      rcases hat with hat | hat
      · left; simp [Own.row, ← hat, hb']
      · right; rw [hb'] at hat; injection hat with hat; omega
  intro a hF
  unfold wpG wpOp
  simp only [ho, wantE_sound hF hw, if_true]
  refine .inl ?_
  have hex : (execOp a.eval o).run P w = .ok (.value v') w' := by
    rw [execOp_env hF hp hk]
    unfold execOp
    simp only [hop, hty, resolve, invoke, builtin, Sem.run_bind, Sem.run_pure, Result.andThen_ok, List.map_toArray, List.map_cons, List.map_nil, Env.evD, hx, hy, Option.getD_some, hrun]
  unfold Oper.wp
  rw [hex]
  simp only [Oper.upon, hd]
  exact k v' w' hS' _ (hF.put hdn _)
theorem ge_append {α : Type} [Flat α] {i d m t el bytes c1 b1 : Nat} {x y : Operand} {ty : TypeId} {v z : Value} {l : List α} {u : α} {e : Env} {rest : List (Nat × Nat)} {w0 w : World} {L : List Own}
    (h : opAt n ops e i = some (d, .call { callee := .builtin .append, args := #[x, y], argTypes := #[t, t] }, ty)) (hx : e.ev x = some v) (hy : e.ev y = some (.slice (some ⟨b1, 0, none⟩) 1 c1))
    (ht : P.underlying t = some (.slice el)) (hi : (P.info? el).map (fun i => (i.zero, i.size, i.bytes)) = some (some z, Flat.sz α, bytes)) (hz : z.cells.size = Flat.sz α)
    (hS : St w0 w (Own.of v el l :: Own.blk b1 (.cells (Flat.cells u).toArray el (0, 0)) :: L)) (hb0 : Nat.blt 0 bytes = true) (hlen : (l.length + 1) * bytes ≤ 140737488355328)
    (k : ∀ v' w1, St w0 w1 (Own.of v' el (l ++ [u]) :: L) → GE P n ops Q rest ((d, v') :: e) w1) : GE P n ops Q ((i, m + 2) :: rest) e w := by
  have hb0' : 0 < bytes := by simpa [Nat.blt_eq] using hb0
  exact ge_append' h hx hy ht hi hz hS (Nat.le_trans (Nat.le_mul_of_pos_right _ hb0') hlen) hlen k
/-- a counter's step -/
theorem ge_addn {i d m : Nat} {t t2 ty : TypeId} {x y : Operand} {k : IntKind} {e : Env} {rest : List (Nat × Nat)} {w : World} (h : opAt n ops e i = some (d, .binOp .add t x y t2, ty))
    (hx : e.ev x = some (.int .i64 (m : Int))) (hy : e.ev y = some (.int .i64 1)) (hm : m + 1 ≤ 9223372036854775807) (kk : GE P n ops Q rest ((d, .int .i64 ((m + 1 : Nat) : Int)) :: e) w) : GE P n ops Q ((i, 0) :: rest) e w := by
  refine ge_val h (fun o w' hop hty hxt => ?_) kk
  have hw : IntKind.i64.wrap ((m : Int) + 1) = ((m + 1 : Nat) : Int) := by rw [IntKind.wrap_i64]; omega
  simp only [execOp, hop, Env.evD, hx, hy, Option.getD_some, Sem.run_bind, eqGuard_add, Sem.run_pure, Result.andThen_ok, binOp_add, Op.intArith, hw]
theorem ge_div {i d : Nat} {t t2 ty : TypeId} {op : BinOp} {x y : Operand} {k : IntKind} {p q : Int} {v : Value} {e : Env} {rest : List (Nat × Nat)} {w : World} (h : opAt n ops e i = some (d, .binOp op t x y t2, ty))
    (hx : e.ev x = some (.int k p)) (hy : e.ev y = some (.int k q)) (hq : ¬ q = 0) (hv : (match op with | .quo => some (.int k (k.wrap (p.tdiv q))) | .rem => some (.int k (p.tmod q)) | _ => none) = some v)
    (kk : GE P n ops Q rest ((d, v) :: e) w) : GE P n ops Q ((i, 0) :: rest) e w := by
  refine ge_val h (fun o w' hop hty hxt => ?_) kk
  cases op <;> simp only [Option.some.injEq] at hv <;> first | (cases hv; done) | skip
  · subst hv; simp [execOp, hop, Env.evD, hx, hy, eqGuard_quo, binOp_quo, Op.intDiv, hq]
  · subst hv; simp [execOp, hop, Env.evD, hx, hy, eqGuard_rem, binOp_rem, Op.intDiv, hq]
/-- an operation that is passed over -/
theorem ge_off {i d m : Nat} {o : Oper} {e : Env} {rest : List (Nat × Nat)} {w : World} (ho : ops[i]? = some o) (hd : o.dst = some d) (hdn : Nat.blt d n = true) (hw : wantE ops e o = some false) (k : GE P n ops Q rest ((d, undef) :: e) w) : GE P n ops Q ((i, m + 1) :: rest) e w := by
  intro a hF
  have hwant := wantE_sound hF hw
  cases m with
  | zero =>
    unfold wpG wpOp
    simp only [ho, hwant, Bool.false_eq_true, if_false, hd]
    exact ⟨Ext.refl w, k _ (hF.put hdn _)⟩
  | succ m =>
    unfold wpG wpOp
    simp only [ho, hwant, Bool.false_eq_true, if_false, hd]
    exact k _ (hF.put hdn _)
end
end Go.Proofs.Ytchcdadpahakfaa.GV
