/- The walker's core, third part: what a call owns beside what it came upon. Written for this work. -/
import Derived.Test.YtchcdadpahakfaaGv2
namespace Go.Proofs.Ytchcdadpahakfaa.GV
open Go Go.RowKit
set_option linter.unusedVariables false
set_option linter.unusedSimpArgs false

structure Own where
  foot : List Nat
  holds : (Nat → Option Obj) → Prop
  loc : ∀ h h', (∀ b ∈ foot, h' b = h b) → holds h → holds h'
def Own.blk (b : Nat) (o : Obj) : Own := ⟨[b], fun h => h b = some o, fun h h' k hh => (k b (by simp)).trans hh⟩
/-- a slice that is owned: nil, or the head of a row with room behind it -/
def Own.row (v : Value) (t sz n : Nat) (xs : List Value) : Own where
  foot := v.ownBlock.toList
  holds h := (xs.length = n * sz ∧ n ≤ 140737488355328) ∧ ((v = .slice none 0 0 ∧ n = 0) ∨ ∃ g cap cur, v = .slice (some ⟨g, 0, none⟩) n cap ∧ h g = some (.cells cur t (0, 0)) ∧ n ≤ cap ∧ cap ≤ maxLen ∧ cur.size = cap * sz ∧ cur.toList.take (n * sz) = xs)
  loc h h' k hh := by
    refine ⟨hh.1, ?_⟩
    rcases hh.2 with h1 | ⟨g, cap, cur, rfl, h2, h3⟩
    · exact .inl h1
    · exact .inr ⟨g, cap, cur, rfl, (k g (by simp [Value.ownBlock])).trans h2, h3⟩
structure St (w0 w : World) (L : List Own) : Prop where
  below : Below w0.heap.size w0 w
  holds : ∀ r ∈ L, r.holds (fun b => w.heap[b]?)
  base : ∀ r ∈ L, ∀ b ∈ r.foot, w0.heap.size ≤ b ∧ b < w.heap.size
  apart : L.Pairwise (fun r s => ∀ b ∈ r.foot, b ∉ s.foot)
theorem St.start (w : World) : St w w [] := ⟨Below.refl _ _, by simp, by simp, by simp⟩
theorem St.ext {w0 w w' : World} {L : List Own} (h : St w0 w L) (k : Ext w w') : St w0 w' L :=
  ⟨h.below.trans ⟨k.os, k.tape, k.output, k.size, fun i hi => k.block i (Nat.lt_of_lt_of_le hi h.below.size)⟩,
   fun r hr => r.loc _ _ (fun b hb => k.block b (h.base r hr b hb).2) (h.holds r hr),
   fun r hr b hb => ⟨(h.base r hr b hb).1, Nat.lt_of_lt_of_le (h.base r hr b hb).2 k.size⟩, h.apart⟩
theorem St.drew {w0 w : World} {L : List Own} (h : St w0 w L) : St w0 w.drew L := h.ext ⟨rfl, rfl, rfl, Nat.le_refl _, fun _ _ => rfl⟩
theorem ext_alloc (w : World) (o : Obj) : Ext w (w.alloc o) := ⟨rfl, rfl, rfl, by simp, fun k hk => Below.heap_alloc w o k hk⟩
theorem St.alloc {w0 w : World} {L : List Own} (h : St w0 w L) (o : Obj) : St w0 (w.alloc o) (Own.blk w.heap.size o :: L) := by
  have h' := h.ext (ext_alloc w o)
  refine ⟨h'.below, fun r hr => ?_, fun r hr b hb => ?_, ?_⟩
  · rcases List.mem_cons.1 hr with rfl | hr
    · exact heap_alloc_new w o
    · exact h'.holds r hr
  · rcases List.mem_cons.1 hr with rfl | hr
    · simp only [Own.blk, List.mem_singleton] at hb
      subst hb
      exact ⟨h.below.size, by simp⟩
    · exact h'.base r hr b hb
  · refine List.Pairwise.cons (fun s hs b hb hbs => ?_) h.apart
    simp only [Own.blk, List.mem_singleton] at hb
    subst hb
    exact Nat.lt_irrefl _ (h.base s hs _ hbs).2
theorem St.tail {w0 w : World} {r : Own} {L : List Own} (h : St w0 w (r :: L)) : St w0 w L :=
  ⟨h.below, fun s hs => h.holds s (List.mem_cons_of_mem _ hs), fun s hs => h.base s (List.mem_cons_of_mem _ hs), (List.pairwise_cons.1 h.apart).2⟩
theorem St.perm {w0 w : World} {L L' : List Own} (h : St w0 w L) (p : L.Perm L') : St w0 w L' := by
  refine ⟨h.below, fun r hr => h.holds r (p.mem_iff.2 hr), fun r hr => h.base r (p.mem_iff.2 hr), ?_⟩
  refine (List.Perm.pairwise_iff (fun {x y} hxy b hb hb' => hxy b hb' hb) p).1 h.apart
/-- the m-th comes first -/
theorem perm_bring : ∀ (L : List Own) (m : Nat) (r : Own), L[m]? = some r → L.Perm (r :: L.eraseIdx m)
  | [], m, r, h => by simp at h
  | x :: L, 0, r, h => by simp at h; subst h; exact List.Perm.refl _
  | x :: L, m + 1, r, h => by
    have := perm_bring L m r (by simpa using h)
    exact (List.Perm.cons x this).trans (List.Perm.swap r x _)
theorem St.bring {w0 w : World} {L : List Own} (h : St w0 w L) (m : Nat) {r : Own} (hm : L[m]? = some r) : St w0 w (r :: L.eraseIdx m) := h.perm (perm_bring L m r hm)
theorem St.drop {w0 w : World} {L : List Own} (h : St w0 w L) (m : Nat) {r : Own} (hm : L[m]? = some r) : St w0 w (L.eraseIdx m) := (h.bring m hm).tail
/-- those of the given places, in that order -/
theorem St.upd {w0 w w' : World} {r r' : Own} {L : List Own} (h : St w0 w (r :: L)) (hos : w'.os = w.os) (htape : w'.tape = w.tape) (hout : w'.output = w.output) (hsz : w.heap.size ≤ w'.heap.size)
    (hb : ∀ k, k < w.heap.size → k ∉ r.foot → w'.heap[k]? = w.heap[k]?) (hr : r'.holds (fun b => w'.heap[b]?)) (hf : ∀ b ∈ r'.foot, (b ∈ r.foot ∨ w.heap.size ≤ b) ∧ b < w'.heap.size) : St w0 w' (r' :: L) := by
  have hr0 := h.base r (by simp)
  have hap := List.pairwise_cons.1 h.apart
  have hold : ∀ s ∈ L, ∀ b ∈ s.foot, w'.heap[b]? = w.heap[b]? := fun s hs b hbs => hb b (h.base s (List.mem_cons_of_mem _ hs) b hbs).2 (fun hbr => hap.1 s hs b hbr hbs)
  refine ⟨⟨hos.trans h.below.os, htape.trans h.below.tape, hout.trans h.below.output, Nat.le_trans h.below.size hsz, fun k hk => ?_⟩, fun s hs => ?_, fun s hs b hbs => ?_, ?_⟩
  · rw [hb k (Nat.lt_of_lt_of_le hk h.below.size) (fun hkr => Nat.lt_irrefl _ (Nat.lt_of_lt_of_le hk (hr0 k hkr).1))]
    exact h.below.block k hk
  · rcases List.mem_cons.1 hs with rfl | hs
    · exact hr
    · exact s.loc _ _ (hold s hs) (h.holds s (List.mem_cons_of_mem _ hs))
  · rcases List.mem_cons.1 hs with rfl | hs
    · obtain ⟨h1, h2⟩ := hf b hbs
      exact ⟨h1.elim (fun h1 => (hr0 b h1).1) (fun h1 => Nat.le_trans h.below.size h1), h2⟩
    · have := h.base s (List.mem_cons_of_mem _ hs) b hbs
      exact ⟨this.1, Nat.lt_of_lt_of_le this.2 hsz⟩
  · refine List.Pairwise.cons (fun s hs b hbr hbs => ?_) hap.2
    rcases (hf b hbr).1 with h1 | h1
    · exact hap.1 s hs b h1 hbs
    · exact Nat.lt_irrefl _ (Nat.lt_of_le_of_lt h1 (h.base s (List.mem_cons_of_mem _ hs) b hbs).2)
/-- a cell of a block that is owned -/
theorem St.cell {w0 w : World} {L : List Own} (h : St w0 w L) (m : Nat) {b : Nat} {cs : Array Value} {t : TypeId} {fr : Nat × Nat} {j : Nat} {v : Value} (hm : L[m]? = some (Own.blk b (.cells cs t fr))) (hj : cs[j]? = some v) : w.cell? ⟨b, j, none⟩ = some v := by
  have := h.holds _ (List.mem_of_getElem? hm)
  rw [cell_of_row w b j cs t fr this, hj]
/-- a store into a block that is owned -/
theorem St.set {w0 w : World} {L : List Own} {b : Nat} {cs : Array Value} {t : TypeId} (h : St w0 w (Own.blk b (.cells cs t (0, 0)) :: L)) (j : Nat) (v : Value) : St w0 (w.setCell ⟨b, j, none⟩ v) (Own.blk b (.cells (cs.setIfInBounds j v) t (0, 0)) :: L) := by
  have hb : w.heap[b]? = some (.cells cs t (0, 0)) := h.holds (Own.blk b (.cells cs t (0, 0))) (by simp)
  have hlt := (h.base _ (List.mem_cons_self ..) b (by simp [Own.blk])).2
  refine h.upd rfl rfl rfl (by simp) (fun k hk hne => heap_setCell_other w _ k v (fun e => hne (by simp [Own.blk, e]))) (heap_setCell_same w b j cs t v hb) (fun b' hb' => ?_)
  simp only [Own.blk, List.mem_singleton] at hb'
  subst hb'
  exact ⟨.inl (by simp [Own.blk]), by simpa using hlt⟩
/-- several cells, one behind the other -/
def setCells (w : World) (b : Nat) : Nat → List Value → World
  | _, [] => w
  | j, v :: r => setCells (w.setCell ⟨b, j, none⟩ v) b (j + 1) r
def setArr (cs : Array Value) : Nat → List Value → Array Value
  | _, [] => cs
  | j, v :: r => setArr (cs.setIfInBounds j v) (j + 1) r
def didStores (b : Nat) : Nat → List Value → List Did
  | _, [] => []
  | j, v :: r => .stored ⟨b, j, none⟩ v :: didStores b (j + 1) r
theorem St.sets {w0 : World} {L : List Own} {b : Nat} {t : TypeId} : ∀ (vs : List Value) (j : Nat) {w : World} {cs : Array Value}, St w0 w (Own.blk b (.cells cs t (0, 0)) :: L) → St w0 (setCells w b j vs) (Own.blk b (.cells (setArr cs j vs) t (0, 0)) :: L)
  | [], j, w, cs, h => h
  | v :: r, j, w, cs, h => St.sets r (j + 1) (h.set j v)
def oneCells (l : List Value) : Bool := l.all (fun v => v.oneCell')
theorem goes_stores {w0 : World} {L : List Own} {b : Nat} {t : TypeId} : ∀ (vs : List Value) (j : Nat) {w : World} {cs : Array Value}, St w0 w (Own.blk b (.cells cs t (0, 0)) :: L) → j + vs.length ≤ cs.size → oneCells vs = true → Goes (didStores b j vs) w (setCells w b j vs)
  | [], j, w, cs, h, _, _ => rfl
  | v :: r, j, w, cs, h, hj, ho => by
    have hb : w.heap[b]? = some (.cells cs t (0, 0)) := h.holds (Own.blk b (.cells cs t (0, 0))) (by simp)
    simp only [oneCells, List.all_cons, Bool.and_eq_true] at ho
    simp only [List.length_cons] at hj
    refine ⟨?_, frozen_of_row w b j cs t hb, ho.1, goes_stores r (j + 1) (h.set j v) (by simp; omega) ho.2⟩
    rw [cell_of_row w b j cs t (0, 0) hb]
    simp; omega

/-- the cells of the n elements (of sz cells) of a slice at A read as f tells -/
structure Rd (w : World) (A : Option Addr) (n sz : Nat) (f : Nat → Nat → Value) : Prop where
  small : n ≤ 140737488355328
  at_ : 0 < n → ∃ b o, A = some ⟨b, o, none⟩
  cell : ∀ b o, A = some ⟨b, o, none⟩ → ∀ i j, i < n → j < sz → w.cell? ⟨b, o + i * sz + j, none⟩ = some (f i j)
theorem Rd.ext {w w' : World} {A : Option Addr} {n sz : Nat} {f : Nat → Nat → Value} (h : Rd w A n sz f) (k : Ext w w') : Rd w' A n sz f :=
  ⟨h.small, h.at_, fun b o e i j hi hj => (k.cell (World.block_lt_of_cell? w _ (h.cell b o e i j hi hj))).trans (h.cell b o e i j hi hj)⟩
theorem St.rd {w0 w : World} {L : List Own} (hS : St w0 w L) {A : Option Addr} {n sz : Nat} {f : Nat → Nat → Value} (h : Rd w0 A n sz f) : Rd w A n sz f := h.ext hS.below
def blkOf (A : Option Addr) : Nat := (A.map (·.block)).getD 0
def offOf (A : Option Addr) : Nat := (A.map (·.off)).getD 0
theorem Rd.eqSome {w : World} {A : Option Addr} {n sz : Nat} {f : Nat → Nat → Value} (h : Rd w A n sz f) (hn : 0 < n) : A = some ⟨blkOf A, offOf A, none⟩ := by
  obtain ⟨b, o, rfl⟩ := h.at_ hn
  rfl
theorem Rd.get {w : World} {A : Option Addr} {n sz : Nat} {f : Nat → Nat → Value} (h : Rd w A n sz f) (i j : Nat) (hi : i < n) (hj : Nat.blt j sz = true) : w.cell? ⟨blkOf A, offOf A + i * sz + j, none⟩ = some (f i j) :=
  h.cell _ _ (h.eqSome (by omega)) i j hi (by simpa [Nat.blt_eq] using hj)

section
variable {P : Program} {n : Nat} {ops : Array Oper} {Q : Exit → Act → World → Prop} [Dfs]
/-- what stands at i: where it goes, the operation -/
def opAt (n : Nat) (ops : Array Oper) (e : Env) (i : Nat) : Option (Nat × Op × TypeId) :=
  match ops[i]? with
  | none => none
  | some o => match wantE ops e o with
    | some true => match o.dst with
      | none => none
      | some d => match Nat.blt d n && plainOp o.op && o.op.operands.all (known e) with
        | true => some (d, o.op, o.type)
        | false => none
    | _ => none
end
section
variable {P : Program} {n : Nat} {ops : Array Oper} {Q : Exit → Act → World → Prop}
theorem opAt_sound {e : Env} {i d : Nat} {op : Op} {ty : TypeId} (h : opAt n ops e i = some (d, op, ty)) : ∃ o, ops[i]? = some o ∧ o.dst = some d ∧ Nat.blt d n = true ∧ wantE ops e o = some true ∧ plainOp o.op = true ∧ o.op.operands.all (known e) = true ∧ o.op = op ∧ o.type = ty := by
  unfold opAt at h
  split at h
  · cases h
  · rename_i o ho
    split at h
    · rename_i hw
      split at h
      · cases h
      · rename_i d' hd
        split at h
        · rename_i hc
          simp only [Bool.and_eq_true] at hc
          simp only [Option.some.injEq, Prod.mk.injEq] at h
          obtain ⟨rfl, rfl, rfl⟩ := h
          exact ⟨o, ho, hd, hc.1.1, hw, hc.1.2, hc.2, rfl, rfl⟩
        · cases h
    · cases h
end
section
variable {P : Program} {n : Nat} {ops : Array Oper} {Q : Exit → Act → World → Prop} [Dfs]
theorem ge_val {i d : Nat} {op : Op} {ty : TypeId} {v : Value} {e : Env} {rest : List (Nat × Nat)} {w : World} (h : opAt n ops e i = some (d, op, ty))
    (hv : ∀ o w', o.op = op → o.type = ty → Ext w w' → (execOp e.evD o).run P w' = .ok (.value v) w') (k : GE P n ops Q rest ((d, v) :: e) w) : GE P n ops Q ((i, 0) :: rest) e w := by
  obtain ⟨o, ho, hd, hdn, hw, hp, hk, hop, hty⟩ := opAt_sound h
  exact ge_one ho hd hdn hw hp hk (fun w' hx => hv o w' hop hty hx) k
/-- xs[i]'s address, xs a slice -/
theorem ge_index {i d t el sz m c : Nat} {x y : Operand} {ty : TypeId} {A : Option Addr} {k' : IntKind} {j : Int} {jn b0 o0 : Nat} {e : Env} {rest : List (Nat × Nat)} {w : World} (h : opAt n ops e i = some (d, .indexAddr t x y, ty))
    (hx : e.ev x = some (.slice A m c)) (hy : e.ev y = some (.int k' j)) (ht : P.underlying t = some (.slice el)) (hs : (P.info? el).map (·.size) = some sz) (hA : A = some ⟨b0, o0, none⟩) (hj : j = (jn : Int)) (hm : jn < m)
    (k : GE P n ops Q rest ((d, .pointer (some ⟨b0, o0 + jn * sz, none⟩)) :: e) w) : GE P n ops Q ((i, 0) :: rest) e w := by
  refine ge_val h (fun o w' hop hty hxt => ?_) k
  subst hA
  subst hj
  obtain ⟨inf, hi, hsz⟩ := Option.map_eq_some_iff.1 hs
  have h1 : (Instr.indexAt t (.slice (some ⟨b0, o0, none⟩) m c) (.int k' (jn : Int))).run P w' = .ok (.pointer (some (Addr.add ⟨b0, o0, none⟩ (jn * sz)))) w' := by
    have hlt : (jn : Int) < (m : Int) := by omega
    have hu : (underlying t).run P w' = .ok (.slice el) w' := by simp [underlying, ht]
    have hz : (sizeOf el).run P w' = .ok sz w' := by simp [sizeOf, typeInfo, hi, hsz]
    simp [Instr.indexAt, asIntOf, hu, hz]
    intro hh; omega
  have h2 : Addr.add ⟨b0, o0, none⟩ (jn * sz) = ⟨b0, o0 + jn * sz, none⟩ := by
    unfold Addr.add; split <;> simp_all
  simp only [execOp, hop, Env.evD, hx, hy, Option.getD_some, Sem.run_bind, h1, h2, Result.andThen_ok, Sem.run_pure]
/-- a new block: box, alloc, a literal -/
theorem ge_new {i : Nat} {d : Option Nat} {v : Nat → Value} {o : Obj} {e : Env} {rest : List (Nat × Nat)} {w0 w : World} {L : List Own} (hS : St w0 w L) (hs : ∀ b, step1 P n ops e i [.blk b] = some (d, .value (v b), [.newed o b], []))
    (k : ∀ b w1, Ext w w1 → St w0 w1 (Own.blk b o :: L) → GE P n ops Q rest (putE d (v b) e) w1) : GE P n ops Q ((i, 1) :: rest) e w :=
  ge_eff (hs w.heap.size) (w' := w.alloc o) ⟨rfl, rfl⟩ (ext_alloc w o) (k _ _ (ext_alloc w o) (hS.alloc o))
/-- a store into a block that is owned -/
theorem ge_set {i m : Nat} {b j : Nat} {cs : Array Value} {t : TypeId} {vs : List Value} {e : Env} {rest : List (Nat × Nat)} {w0 w : World} {L : List Own} (hS : St w0 w (Own.blk b (.cells cs t (0, 0)) :: L)) (hs : step1 P n ops e i [] = some (none, .skip, didStores b j vs, []))
    (hj : Nat.ble (j + vs.length) cs.size = true) (ho : oneCells vs = true) (k : ∀ w1, St w0 w1 (Own.blk b (.cells (setArr cs j vs) t (0, 0)) :: L) → GE P n ops Q rest e w1) : GE P n ops Q ((i, m + 2) :: rest) e w :=
  ge_store (d := none) hs (goes_stores vs j hS (by simpa using hj) ho) (k _ (hS.sets vs j))
end
end Go.Proofs.Ytchcdadpahakfaa.GV
