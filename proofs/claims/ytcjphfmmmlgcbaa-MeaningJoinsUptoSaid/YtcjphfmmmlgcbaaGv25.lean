/- The walker's core, 25th part: short words for the texts that the walker prints. Written for this work. -/
import Derived.Test.YtcjphfmmmlgcbaaGv24
namespace Go.Proofs.Ytcjphfmmmlgcbaa.GV
open Go Go.RowKit
set_option linter.unusedVariables false
set_option linter.unusedSimpArgs false
abbrev vI (n : Int) : Value := .int .i64 n
abbrev pP (b o : Nat) : Value := .pointer (some ⟨b, o, none⟩)
theorem si {α : Type} {a b : α} (h : some a = some b) : a = b := Option.some.inj h
def ansOf : List Did → List Ans
  | [] => []
  | .loaded _ v :: r => .val v :: ansOf r
  | _ :: r => ansOf r
theorem ea : ∀ {e e' : Env} (h : e'.map (fun x => e.get x.1) = e'.map (fun x => some x.2) := by kernel_rfl), Env.all e e'
  | e, [], _ => trivial
  | e, (t, v) :: r, h => by
    simp only [List.map_cons, List.cons.injEq] at h
    exact ⟨h.1, ea (e := e) (e' := r) h.2⟩
theorem St.c {w0 w : World} {L : List Own} (h : St w0 w L) (m : Nat) {b : Nat} {cs : Array Value} {t : TypeId} {fr : Nat × Nat} {j : Nat} {v : Value} (hm : L[m]? = some (Own.blk b (.cells cs t fr)) := by rfl) (hj : cs[j]? = some v := by rfl) : w.cell? ⟨b, j, none⟩ = some v := h.cell m hm hj
section
variable {P : Program} {n : Nat} {ops : Array Oper} {Q : Exit → Act → World → Prop} [Dfs]
theorem gb (is : List Nat) (vs : Env) (l : List Did) {e : Env} {rest : List (Nat × Nat)} {w : World} (hl : Loads l w) (k : GE P n ops Q rest (vs ++ e) w) (h : batch P n ops is e (ansOf l) = some (vs ++ e, l) := by kernel_rfl) : GE P n ops Q (is.map (fun i => (i, 0)) ++ rest) e w := ge_batch is h hl k
theorem gb0 (is : List Nat) (vs : Env) {e : Env} {rest : List (Nat × Nat)} {w : World} (k : GE P n ops Q rest (vs ++ e) w) (h : batch P n ops is e [] = some (vs ++ e, []) := by kernel_rfl) : GE P n ops Q (is.map (fun i => (i, 0)) ++ rest) e w := ge_batch is h trivial k
theorem gn {y : Code} {Q' : Exit → Act → World → Prop} {K : Act → World → Prop} {e : Env} {w : World} (hK : ∀ [Dfs] e w, WE P n y Q' e w → KE n K e w) (h : WE P n y Q' e w) (hq : Q .normal = K := by rfl) : GE P n ops Q [] e w := ge_nil fun a hF => hq ▸ hK _ _ h a hF
theorem gk (t : Nat) (b c : Bool) {e : Env} {order : List (Nat × Nat)} {w : World} (h : b = c) (k : GE P n ops Q order ((t, .bool c) :: e) w) (he : e.get t = some (.bool b) := by kernel_rfl) : GE P n ops Q order e w := ge_known he h k
theorem wk {c : Code} (t : Nat) (b v : Bool) {e : Env} {w : World} (h : b = v) (k : WE P n c Q ((t, .bool v) :: e) w) (he : e.get t = some (.bool b) := by kernel_rfl) : WE P n c Q e w := we_known he h k
theorem wr {id : Nat} {e : Env} {w : World} (order : List (Nat × Nat)) (h : GE P n ops Q order e w) (ho : order.map (·.1) = List.range ops.size := by rfl) : WE P n (.region id ops false) Q e w := we_region order ho h
theorem ws {x y : Code} {e : Env} {w : World} (h : ∀ K : Act → World → Prop, (∀ [Dfs] e w, WE P n y Q e w → KE n K e w) → WE P n x (Exit.then K Q) e w) : WE P n (.seq x y) Q e w := we_seq h
end
section
variable {P : Program} {n : Nat} {ops : Array Oper} {Q : Exit → Act → World → Prop}
theorem pr {fn : Func} {R : Ending → World → Prop} {e : Env} {w : World} (rs : List ResultVar) (vs : List Value) (l : List Did) (hl : Loads l w) (hR : R (.returned (resV vs)) w) (hr : fn.results.toList = rs := by rfl) (h : resE P e rs (ansOf l) = some (vs, l) := by kernel_rfl) : ∀ a, @Frm noDfs n a e → bodyPost P fn R .ret a w := post_ret hr h hl hR
end
section
variable {P : Program} {n : Nat} {ops : Array Oper} {Q : Exit → Act → World → Prop} [Dfs]
end
section
variable {P : Program} {n : Nat} {ops : Array Oper} {Q : Exit → Act → World → Prop}
theorem pr0 {fn : Func} {R : Ending → World → Prop} {e : Env} {w : World} (rs : List ResultVar) (vs : List Value) (hR : R (.returned (resV vs)) w) (hr : fn.results.toList = rs := by rfl) (h : resE P e rs [] = some (vs, []) := by kernel_rfl) : ∀ a, @Frm noDfs n a e → bodyPost P fn R .ret a w := post_ret hr h trivial hR
end
section
variable {P : Program} {n : Nat} {ops : Array Oper} {Q : Exit → Act → World → Prop} [Dfs]
end
section
variable {P : Program} {n : Nat} {ops : Array Oper} {Q : Exit → Act → World → Prop}
end
section
variable {P : Program} {n : Nat} {ops : Array Oper} {Q : Exit → Act → World → Prop} [Dfs]
end
section
variable {P : Program} {n : Nat} {ops : Array Oper} {Q : Exit → Act → World → Prop}
theorem pe0 {fn : Func} {R : Ending → World → Prop} {e : Env} {w : World} (rs : List ResultVar) (vs : List Value) (hR : R (.returned (resV vs)) w) (hr : fn.results.toList = rs := by rfl) (h : resE P e rs [] = some (vs, []) := by kernel_rfl) : ∀ a, @Frm noDfs n a e → bodyPost P fn R .normal a w := post_end hr h trivial hR
end
section
variable {P : Program} {n : Nat} {ops : Array Oper} {Q : Exit → Act → World → Prop} [Dfs]
theorem gs (b j : Nat) (cs : Array Value) (t : TypeId) (vs : List Value) {i m : Nat} {e : Env} {rest : List (Nat × Nat)} {w0 w : World} {L : List Own} (hS : St w0 w (Own.blk b (.cells cs t (0, 0)) :: L)) (k : ∀ w1, St w0 w1 (Own.blk b (.cells (setArr cs j vs) t (0, 0)) :: L) → GE P n ops Q rest e w1)
    (hs : step1 P n ops e i [] = some (none, .skip, didStores b j vs, []) := by kernel_rfl) (hj : Nat.ble (j + vs.length) cs.size = true := by rfl) (ho : oneCells vs = true := by rfl) : GE P n ops Q ((i, m + 2) :: rest) e w := ge_set hS hs hj ho k
theorem gw (d : Option Nat) (o : Obj) (v : Nat → Value) {i : Nat} {e : Env} {rest : List (Nat × Nat)} {w0 w : World} {L : List Own} (hS : St w0 w L) (k : ∀ b w1, Ext w w1 → St w0 w1 (Own.blk b o :: L) → GE P n ops Q rest (putE d (v b) e) w1) (hs : ∀ b, step1 P n ops e i [.blk b] = some (d, .value (v b), [.newed o b], []) := by intro b; kernel_rfl) : GE P n ops Q ((i, 1) :: rest) e w := ge_new hS hs k
theorem gi (d ty t el sz m c : Nat) (x y : Operand) (A : Option Addr) (k' : IntKind) (j : Int) (jn : Nat) {i : Nat} {e : Env} {rest : List (Nat × Nat)} {w : World} (hA : A = some ⟨blkOf A, offOf A, none⟩) (hj : j = (jn : Int)) (hm : jn < m)
    (k : GE P n ops Q rest ((d, .pointer (some ⟨blkOf A, offOf A + jn * sz, none⟩)) :: e) w) (h : opAt n ops e i = some (d, .indexAddr t x y, ty) := by kernel_rfl) (hx : e.ev x = some (.slice A m c) := by kernel_rfl) (hy : e.ev y = some (.int k' j) := by kernel_rfl) (ht : P.underlying t = some (.slice el) := by kernel_rfl) (hs : (P.info? el).map (·.size) = some sz := by kernel_rfl) : GE P n ops Q ((i, 0) :: rest) e w := ge_index h hx hy ht hs hA hj hm k
end
end Go.Proofs.Ytcjphfmmmlgcbaa.GV
