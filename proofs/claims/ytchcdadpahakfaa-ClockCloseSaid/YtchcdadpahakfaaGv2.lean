/- The walker's core, second part: what is owned; operations played; code. Written for this work. -/
import Derived.Test.YtchcdadpahakfaaGv1
namespace Go.Proofs.Ytchcdadpahakfaa.GV
open Go Go.RowKit
set_option linter.unusedVariables false
set_option linter.unusedSimpArgs false

inductive Ans where
  | val (v : Value)
  | blk (b : Nat)
inductive Did where
  | loaded (a : Addr) (v : Value)
  | stored (a : Addr) (v : Value)
  | newed (o : Obj) (b : Nat)
def trace (P : Program) {α : Type} : Sem α → List Ans → Option (α × List Did × List Ans)
  | .pure a, s => some (a, [], s)
  | .load _ a k, .val v :: s => match trace P (k v) s with
    | some (r, l, s') => some (r, .loaded a v :: l, s')
    | none => none
  | .store _ a v k, s => match trace P k s with
    | some (r, l, s') => some (r, .stored a v :: l, s')
    | none => none
  | .new o k, .blk b :: s => match trace P (k b) s with
    | some (r, l, s') => some (r, .newed o b :: l, s')
    | none => none
  | .program k, s => trace P (k P) s
  | .mark _ k, s => trace P k s
  | _, _ => none
/-- what was done leads from w to w' -/
def Goes : List Did → World → World → Prop
  | [], w, w' => w' = w
  | .loaded a v :: l, w, w' => w.cell? a = some v ∧ Goes l w w'
  | .stored a v :: l, w, w' => (w.cell? a).isSome = true ∧ w.frozen? a = false ∧ v.oneCell' = true ∧ Goes l (w.setCell a v) w'
  | .newed o b :: l, w, w' => b = w.heap.size ∧ Goes l (w.alloc o) w'
theorem run_of_trace {P : Program} {α : Type} (s : Sem α) : ∀ {ans r l ans'} {w w' : World}, trace P s ans = some (r, l, ans') → Goes l w w' → s.run P w = .ok r w' := by
  induction s with
  | pure a => intro ans r l ans' w w' h hg; simp only [trace, Option.some.injEq, Prod.mk.injEq] at h; obtain ⟨rfl, rfl, rfl⟩ := h; cases hg; rfl
  | load m a k ih =>
    intro ans r l ans' w w' h hg
    cases ans with
    | nil => simp [trace] at h
    | cons x s =>
      cases x with
      | blk b => simp [trace] at h
      | val v =>
        simp only [trace] at h
        split at h
        · rename_i r' l' s' ht
          simp only [Option.some.injEq, Prod.mk.injEq] at h
          obtain ⟨rfl, rfl, rfl⟩ := h
          simp only [Sem.run, hg.1]
          exact ih v ht hg.2
        · cases h
  | store m a v k ih =>
    intro ans r l ans' w w' h hg
    simp only [trace] at h
    split at h
    · rename_i r' l' s' ht
      simp only [Option.some.injEq, Prod.mk.injEq] at h
      obtain ⟨rfl, rfl, rfl⟩ := h
      obtain ⟨h1, h2, h3, h4⟩ := hg
      obtain ⟨u, hu⟩ := Option.isSome_iff_exists.1 h1
      cases v <;> first
        | (simp [Value.oneCell'] at h3; done)
        | (simp only [Sem.run, hu, h2]; exact ih ht h4)
    · cases h
  | new o k ih =>
    intro ans r l ans' w w' h hg
    cases ans with
    | nil => simp [trace] at h
    | cons x s =>
      cases x with
      | val v => simp [trace] at h
      | blk b =>
        simp only [trace] at h
        split at h
        · rename_i r' l' s' ht
          simp only [Option.some.injEq, Prod.mk.injEq] at h
          obtain ⟨rfl, rfl, rfl⟩ := h
          obtain ⟨rfl, h2⟩ := hg
          simp only [Sem.run]
          exact ih _ ht h2
        · cases h
  | program k ih => intro ans r l ans' w w' h hg; simp only [trace] at h; exact ih P h hg
  | mark m k ih => intro ans r l ans' w w' h hg; simp only [trace] at h; simp only [Sem.run]; exact ih h hg
  | shape r k ih => intro ans r l ans' w w' h hg; simp [trace] at h
  | freeze a n k ih => intro ans r l ans' w w' h hg; simp [trace] at h
  | frozen a k ih => intro ans r l ans' w w' h hg; simp [trace] at h
  | getObj r k ih => intro ans r l ans' w w' h hg; simp [trace] at h
  | setObj r o k ih => intro ans r l ans' w w' h hg; simp [trace] at h
  | choose q k ih => intro ans r l ans' w w' h hg; simp [trace] at h
  | sys c k ih => intro ans r l ans' w w' h hg; simp [trace] at h
  | halt h => intro ans r l ans' w w' h hg; simp [trace] at h
/-- only loads: what they ask -/
def Loads : List Did → World → Prop
  | [], _ => True
  | .loaded a v :: l, w => w.cell? a = some v ∧ Loads l w
  | _ :: _, _ => False
theorem Loads.goes : ∀ {l : List Did} {w : World}, Loads l w → Goes l w w
  | [], _, _ => rfl
  | .loaded a v :: l, w, h => ⟨h.1, Loads.goes h.2⟩
  | .stored _ _ :: _, _, h => h.elim
  | .newed _ _ :: _, _, h => h.elim
theorem Loads.ext : ∀ {l : List Did} {w w' : World}, Loads l w → Ext w w' → Loads l w'
  | [], _, _, _, _ => trivial
  | .loaded a v :: l, w, w', h, k => ⟨(k.cell (World.block_lt_of_cell? w a h.1)).trans h.1, Loads.ext h.2 k⟩
  | .stored _ _ :: _, _, _, h, _ => h.elim
  | .newed _ _ :: _, _, _, h, _ => h.elim
theorem Loads.append : ∀ {l m : List Did} {w : World}, Loads (l ++ m) w → Loads l w ∧ Loads m w
  | [], m, w, h => ⟨trivial, h⟩
  | .loaded a v :: l, m, w, h => ⟨⟨h.1, (Loads.append h.2).1⟩, (Loads.append h.2).2⟩
  | .stored _ _ :: _, _, _, h => h.elim
  | .newed _ _ :: _, _, _, h => h.elim

def Env.evD (e : Env) (x : Operand) : Value := (e.ev x).getD undef
def known (e : Env) (x : Operand) : Bool := (e.ev x).isSome
def okDst (d : Option Nat) (n : Nat) : Bool := match d with | some d => Nat.blt d n | none => true
def plainOp : Op → Bool
  | .select _ _ => false
  | _ => true
def wantE (ops : Array Oper) (e : Env) (o : Oper) : Option Bool :=
  match o.guard with
  | none => some true
  | some (g, b) => match (ops[g]?).bind (·.dst) with
    | none => none
    | some d => match e.get d with
      | some (.bool c) => some (c == b)
      | some (.tuple _) => some false
      | _ => none
theorem wantE_sound [Dfs] {n : Nat} {ops : Array Oper} {e : Env} {o : Oper} {a : Act} {b : Bool} (hF : Frm n a e) (h : wantE ops e o = some b) : Region.wanted o (yielded ops a.tmps) = b := by
  unfold wantE at h
  unfold Region.wanted
  cases hg : o.guard with
  | none => rw [hg] at h; simp only [Option.some.injEq] at h; simp [h]
  | some gb =>
    obtain ⟨g, want⟩ := gb
    rw [hg] at h
    simp only [] at h ⊢
    cases hd : (ops[g]?).bind (·.dst) with
    | none => rw [hd] at h; cases h
    | some d =>
      rw [hd] at h
      simp only [] at h
      cases he : e.get d with
      | none => rw [he] at h; cases h
      | some v =>
        have ht := hF.get d v he
        rw [he] at h
        simp only [yielded, hd, Option.bind_some, ht]
        cases v <;> simp only [Option.some.injEq] at h <;> first | (cases h; done) | skip
        · subst h; cases want <;> rename_i c <;> cases c <;> rfl
        · subst h; rfl
theorem execOp_env [Dfs] {n : Nat} {a : Act} {e : Env} (hF : Frm n a e) {o : Oper} (hs : plainOp o.op = true) (hk : o.op.operands.all (known e) = true) : execOp a.eval o = execOp e.evD o := by
  refine execOp_congr o (fun cs b hh => by rw [hh] at hs; cases hs) fun x hx => ?_
  have := Array.all_eq_true_iff_forall_mem.1 hk x hx
  obtain ⟨v, hv⟩ := Option.isSome_iff_exists.1 this
  rw [hF.ev hv, Env.evD, hv]; rfl
/-- an operation that is carried out: where its value goes, what it comes to -/
def step1 (P : Program) (n : Nat) (ops : Array Oper) (e : Env) (i : Nat) (ans : List Ans) : Option (Option Nat × Next × List Did × List Ans) :=
  match ops[i]? with
  | none => none
  | some o => match wantE ops e o with
    | some true => match plainOp o.op && o.op.operands.all (known e) && okDst o.dst n with
      | true => match trace P (execOp e.evD o) ans with
        | some (r, l, ans') => some (o.dst, r, l, ans')
        | none => none
      | false => none
    | _ => none
def putE (d : Option Nat) (v : Value) (e : Env) : Env := match d with | some d => (d, v) :: e | none => e
theorem Frm.putE [Dfs] {n : Nat} {a : Act} {e : Env} (h : Frm n a e) {d : Option Nat} (hd : okDst d n = true) (v : Value) : Frm n (a.put d v) (putE d v e) := by
  cases d with
  | none => exact h
  | some d => exact h.put hd v
def step0 (P : Program) (n : Nat) (ops : Array Oper) (e : Env) (i : Nat) (ans : List Ans) : Option (Env × List Did × List Ans) :=
  match ops[i]? with
  | none => none
  | some o => match o.dst with
    | none => none
    | some d => match Nat.blt d n with
      | false => none
      | true => match wantE ops e o with
        | none => none
        | some false => some ((d, undef) :: e, [], ans)
        | some true => match step1 P n ops e i ans with
          | some (_, .value v, l, ans') => some ((d, v) :: e, l, ans')
          | _ => none
def batch (P : Program) (n : Nat) (ops : Array Oper) : List Nat → Env → List Ans → Option (Env × List Did)
  | [], e, [] => some (e, [])
  | [], _, _ :: _ => none
  | i :: is, e, ans => match step0 P n ops e i ans with
    | some (e', l, ans') => match batch P n ops is e' ans' with
      | some (e'', l') => some (e'', l ++ l')
      | none => none
    | none => none
section
variable {P : Program} {n : Nat} {ops : Array Oper} {Q : Exit → Act → World → Prop} [Dfs]
def GE (P : Program) (n : Nat) (ops : Array Oper) (Q : Exit → Act → World → Prop) (order : List (Nat × Nat)) (e : Env) (w : World) : Prop := ∀ a, Frm n a e → wpG P ops Q order a w
theorem step1_sound {e : Env} {i : Nat} {ans ans' : List Ans} {d : Option Nat} {r : Next} {l : List Did} (h : step1 P n ops e i ans = some (d, r, l, ans')) :
    ∃ o, ops[i]? = some o ∧ o.dst = d ∧ okDst d n = true ∧ ∀ a, Frm n a e → Region.wanted o (yielded ops a.tmps) = true ∧ ∀ w w', Goes l w w' → (execOp a.eval o).run P w = .ok r w' := by
  unfold step1 at h
  cases ho : ops[i]? with
  | none => rw [ho] at h; cases h
  | some o =>
    rw [ho] at h
    simp only [] at h
    split at h
    · rename_i hw
      split at h
      · rename_i hc
        simp only [Bool.and_eq_true] at hc
        split at h
        · rename_i r' l' s' ht
          simp only [Option.some.injEq, Prod.mk.injEq] at h
          obtain ⟨rfl, rfl, rfl, rfl⟩ := h
          refine ⟨o, rfl, rfl, hc.2, fun a hF => ⟨wantE_sound hF hw, fun w w' hg => ?_⟩⟩
          rw [execOp_env hF hc.1.1 hc.1.2]
          exact run_of_trace _ ht hg
        · cases h
      · cases h
    · cases h
theorem step0_sound {e e' : Env} {i : Nat} {ans ans' : List Ans} {l : List Did} (h : step0 P n ops e i ans = some (e', l, ans')) {a : Act} (hF : Frm n a e) {w : World} (hl : Loads l w) :
    ∃ v, Steady P ops i v a w ∧ Frm n (a.put (dstOf ops i) v) e' := by
  unfold step0 at h
  cases ho : ops[i]? with
  | none => rw [ho] at h; cases h
  | some o =>
    rw [ho] at h
    simp only [] at h
    cases hd : o.dst with
    | none => rw [hd] at h; cases h
    | some d =>
      rw [hd] at h
      simp only [] at h
      cases hb : Nat.blt d n with
      | false => rw [hb] at h; cases h
      | true =>
        rw [hb] at h
        simp only [] at h
        have hdst : dstOf ops i = some d := by simp [dstOf, ho, hd]
        cases hw : wantE ops e o with
        | none => rw [hw] at h; cases h
        | some b =>
          cases b with
          | false =>
            rw [hw] at h
            simp only [Option.some.injEq, Prod.mk.injEq] at h
            obtain ⟨rfl, rfl, rfl⟩ := h
            refine ⟨undef, ⟨o, ho, .inr ⟨wantE_sound hF hw, rfl⟩⟩, ?_⟩
            rw [hdst]; exact hF.put hb _
          | true =>
            rw [hw] at h
            simp only [] at h
            split at h
            · rename_i d' v l' s' hs
              simp only [Option.some.injEq, Prod.mk.injEq] at h
              obtain ⟨rfl, rfl, rfl⟩ := h
              obtain ⟨o', ho', hd', _, hr⟩ := step1_sound hs
              obtain rfl : o' = o := by rw [ho] at ho'; exact (Option.some.inj ho').symm
              obtain ⟨hw', hrun⟩ := hr a hF
              refine ⟨v, ⟨o', ho, .inl ⟨hw', fun w' hx => .inl (hrun w' w' (hl.ext hx).goes)⟩⟩, ?_⟩
              rw [hdst]; exact hF.put hb _
            · cases h
theorem ge_nil {e : Env} {w : World} (h : ∀ a, Frm n a e → Q .normal a w) : GE P n ops Q [] e w := h
/-- values, computed and loaded -/
theorem ge_batch : ∀ (is : List Nat) {ans : List Ans} {e : Env} {vs : Env} {l : List Did} {rest : List (Nat × Nat)} {w : World}, batch P n ops is e ans = some (vs ++ e, l) → Loads l w →
    GE P n ops Q rest (vs ++ e) w → GE P n ops Q (is.map (fun i => (i, 0)) ++ rest) e w := by
  have key : ∀ (is : List Nat) {ans : List Ans} {e e' : Env} {l : List Did} {rest : List (Nat × Nat)} {w : World}, batch P n ops is e ans = some (e', l) → Loads l w →
      GE P n ops Q rest e' w → GE P n ops Q (is.map (fun i => (i, 0)) ++ rest) e w := by
    intro is
    induction is with
    | nil =>
      intro ans e e' l rest w h hl k
      cases ans with
      | nil => simp only [batch, Option.some.injEq, Prod.mk.injEq] at h; obtain ⟨rfl, rfl⟩ := h; exact k
      | cons x s => simp [batch] at h
    | cons i is ih =>
      intro ans e e' l rest w h hl k
      simp only [batch] at h
      split at h
      · rename_i e1 l1 s1 hs
        split at h
        · rename_i e2 l2 hb
          simp only [Option.some.injEq, Prod.mk.injEq] at h
          obtain ⟨rfl, rfl⟩ := h
          obtain ⟨hl1, hl2⟩ := hl.append
          intro a hF
          obtain ⟨v, hy, hF'⟩ := step0_sound hs hF hl1
          exact ⟨v, hy, ih hb hl2 k _ hF'⟩
        · cases h
      · cases h
  intro is ans e vs l rest w h hl k
  exact key is h hl k
/-- a value under a condition of its own -/
theorem ge_one {i d : Nat} {o : Oper} {v : Value} {e : Env} {rest : List (Nat × Nat)} {w : World} (ho : ops[i]? = some o) (hd : o.dst = some d) (hdn : Nat.blt d n = true) (hw : wantE ops e o = some true)
    (hp : plainOp o.op = true) (hk : o.op.operands.all (known e) = true) (hv : ∀ w', Ext w w' → (execOp e.evD o).run P w' = .ok (.value v) w')
    (k : GE P n ops Q rest ((d, v) :: e) w) : GE P n ops Q ((i, 0) :: rest) e w := by
  intro a hF
  refine ⟨v, ⟨o, ho, .inl ⟨wantE_sound hF hw, fun w' hx => .inl ?_⟩⟩, ?_⟩
  · rw [execOp_env hF hp hk]; exact hv w' hx
  · have hdst : dstOf ops i = some d := by simp [dstOf, ho, hd]
    rw [hdst]; exact k _ (hF.put hdn _)
/-- what is known of a Bool in the frame -/
theorem ge_known {t : Nat} {b : Bool} {c : Bool} {e : Env} {order : List (Nat × Nat)} {w : World} (he : e.get t = some (.bool b)) (h : b = c) (k : GE P n ops Q order ((t, .bool c) :: e) w) : GE P n ops Q order e w := by
  subst h
  intro a hF
  refine k a ⟨hF.size, hF.defers, fun s v hs => ?_⟩
  simp only [Env.get] at hs
  cases hb : Nat.beq t s with
  | true =>
    rw [hb] at hs
    have : t = s := Nat.eq_of_beq_eq_true hb
    subst this
    simp only [Option.some.injEq] at hs
    subst hs
    exact hF.get t _ he
  | false => rw [hb] at hs; exact hF.get s v hs
/-- a call -/
theorem ge_call {i : Nat} {d : Option Nat} {f : FuncId} {args : Array Value} {e : Env} {rest : List (Nat × Nat)} {w : World} {R : Ending → World → Prop} (hs : step1 P n ops e i [] = some (d, .enter f args, [], [])) (hc : Calls P f args w R)
    (k : ∀ r w', R r w' → ∃ v, r = .returned v ∧ Ext w w' ∧ GE P n ops Q rest (putE d v e) w') : GE P n ops Q ((i, 1) :: rest) e w := by
  obtain ⟨o, ho, hd, hb, hr⟩ := step1_sound hs
  intro a hF
  obtain ⟨hw, hrun⟩ := hr a hF
  unfold wpG wpOp
  simp only [ho, hw, if_true]
  refine .inl ?_
  unfold Oper.wp
  rw [hrun w w rfl]
  simp only [Oper.upon]
  refine hc.mono fun r w' hR => ?_
  obtain ⟨v, rfl, hx, k⟩ := k r w' hR
  exact ⟨hx, by rw [hd]; exact k _ (hF.putE hb v)⟩
/-- an operation that leads from w to w' and yields v -/
theorem ge_eff {i : Nat} {d : Option Nat} {v : Value} {e : Env} {rest : List (Nat × Nat)} {w w' : World} {ans : List Ans} {l : List Did} (hs : step1 P n ops e i ans = some (d, .value v, l, [])) (hg : Goes l w w')
    (hx : Ext w w') (k : GE P n ops Q rest (putE d v e) w') : GE P n ops Q ((i, 1) :: rest) e w := by
  obtain ⟨o, ho, hd, hb, hr⟩ := step1_sound hs
  intro a hF
  obtain ⟨hw, hrun⟩ := hr a hF
  unfold wpG wpOp
  simp only [ho, hw, if_true]
  refine .inl ?_
  unfold Oper.wp
  rw [hrun w w' hg]
  exact ⟨hx, by rw [hd]; exact k _ (hF.putE hb v)⟩
theorem ge_store {i m : Nat} {d : Option Nat} {e : Env} {rest : List (Nat × Nat)} {w w' : World} {l : List Did} (hs : step1 P n ops e i [] = some (none, .skip, l, [])) (hg : Goes l w w')
    (k : GE P n ops Q rest e w') : GE P n ops Q ((i, m + 2) :: rest) e w := by
  obtain ⟨o, ho, hd, hb, hr⟩ := step1_sound hs
  intro a hF
  obtain ⟨hw, hrun⟩ := hr a hF
  unfold wpG wpOp
  simp only [ho, hw, if_true]
  refine .inl ?_
  unfold Oper.wp
  rw [hrun w w' hg]
  simp only [Oper.upon, hd, Act.put]
  exact k a hF
end

/-- the least number of which S holds -/
noncomputable def leastOf (S : Nat → Prop) : Nat := @dite _ (∃ k, S k ∧ ∀ j, S j → k ≤ j) (Classical.propDecidable _) (fun h => Classical.choose h) (fun _ => 0)
theorem exists_least {S : Nat → Prop} (h : ∃ k, S k) : ∃ k, S k ∧ ∀ j, S j → k ≤ j := by
  obtain ⟨k, hk⟩ := h
  induction k using Nat.strongRecOn with
  | _ k ih =>
    by_cases hs : ∃ j, j < k ∧ S j
    · obtain ⟨j, hj, hS⟩ := hs
      exact ih j hj hS
    · exact ⟨k, hk, fun j hj => Nat.le_of_not_lt fun h => hs ⟨j, h, hj⟩⟩
theorem leastOf_spec {S : Nat → Prop} (h : ∃ k, S k) : S (leastOf S) ∧ ∀ j, S j → leastOf S ≤ j := by
  have h' := exists_least h
  unfold leastOf
  rw [dif_pos h']
  exact Classical.choose_spec h'
theorem leastOf_mem {S : Nat → Prop} (h : ∃ k, S k) : S (leastOf S) := (leastOf_spec h).1
theorem leastOf_le {S : Nat → Prop} {j : Nat} (h : S j) : leastOf S ≤ j := (leastOf_spec ⟨j, h⟩).2 j h

section
variable {P : Program} {n : Nat} {Q : Exit → Act → World → Prop} [Dfs]
def WE (P : Program) (n : Nat) (c : Code) (Q : Exit → Act → World → Prop) (e : Env) (w : World) : Prop := ∀ a, Frm n a e → c.wp P Q a w
def KE (n : Nat) (K : Act → World → Prop) (e : Env) (w : World) : Prop := ∀ a, Frm n a e → K a w
theorem we_seq {x y : Code} {e : Env} {w : World} (h : ∀ K : Act → World → Prop, (∀ [Dfs] e w, WE P n y Q e w → KE n K e w) → WE P n x (Exit.then K Q) e w) : WE P n (.seq x y) Q e w :=
  fun a hF => wp_seq (h (fun a w => y.wp P Q a w) (fun _ _ h => h) a hF)
theorem we_block {id : Nat} {c : Code} {e : Env} {w : World} (h : WE P n c (Exit.inBlock id Q) e w) : WE P n (.block id c) Q e w := fun a hF => wp_block (h a hF)
theorem we_skip {e : Env} {w : World} (h : ∀ a, Frm n a e → Q .normal a w) : WE P n .skip Q e w := fun a hF => wp_skip (h a hF)
theorem we_exit {id : Nat} {e : Env} {w : World} (h : ∀ a, Frm n a e → Q (.exit id) a w) : WE P n (.exit id) Q e w := fun a hF => wp_exit (h a hF)
theorem we_ret {e : Env} {w : World} (h : ∀ a, Frm n a e → Q .ret a w) : WE P n .ret Q e w := fun a hF => wp_ret (h a hF)
theorem we_true {c : Operand} {x y : Code} {e : Env} {w : World} (hc : e.ev c = some (.bool true)) (h : WE P n x Q e w) : WE P n (.cond c x y) Q e w := fun a hF => wp_cond_true (hF.ev hc) (h a hF)
theorem we_false {c : Operand} {x y : Code} {e : Env} {w : World} (hc : e.ev c = some (.bool false)) (h : WE P n y Q e w) : WE P n (.cond c x y) Q e w := fun a hF => wp_cond_false (hF.ev hc) (h a hF)
theorem we_known {c : Code} {t : Nat} {b : Bool} {v : Bool} {e : Env} {w : World} (he : e.get t = some (.bool b)) (h : b = v) (k : WE P n c Q ((t, .bool v) :: e) w) : WE P n c Q e w := by
  subst h
  intro a hF
  refine k a ⟨hF.size, hF.defers, fun s v hs => ?_⟩
  simp only [Env.get] at hs
  cases hb : Nat.beq t s with
  | true =>
    rw [hb] at hs
    have : t = s := Nat.eq_of_beq_eq_true hb
    subst this
    simp only [Option.some.injEq] at hs
    subst hs
    exact hF.get t _ he
  | false => rw [hb] at hs; exact hF.get s v hs
theorem we_keep {c : Code} {e e' : Env} {w : World} (h : Env.all e e') (k : WE P n c Q e' w) : WE P n c Q e w := fun a hF => k a (hF.weaken h)
theorem we_region {id : Nat} {ops : Array Oper} {e : Env} {w : World} (order : List (Nat × Nat)) (ho : order.map (·.1) = List.range ops.size) (h : GE P n ops Q order e w) : WE P n (.region id ops false) Q e w :=
  fun a hF => wp_region_G order ho (h a hF)
theorem we_draws {id : Nat} {ops : Array Oper} {e : Env} {w : World} (hm : P.follows .mixedOrders = true) (order : List (Nat × Nat)) (hc : canonAll ops order = true) (h : GE P n ops (NoPanic Q) order e w.drew) : WE P n (.region id ops true) Q e w :=
  fun a hF => wp_region_draws hm order hc (h a hF)
end

def envOf : List Value → Nat → Env
  | [], _ => []
  | v :: r, k => (k, v) :: envOf r (k + 1)
theorem envOf_get : ∀ (l : List Value) (k t : Nat) (v : Value), (envOf l k).get t = some v → k ≤ t ∧ l[t - k]? = some v
  | [], k, t, v, h => by simp [envOf, Env.get] at h
  | u :: r, k, t, v, h => by
    simp only [envOf, Env.get] at h
    cases hb : Nat.beq k t with
    | true =>
      rw [hb] at h
      have : k = t := Nat.eq_of_beq_eq_true hb
      subst this
      simp only [Option.some.injEq] at h
      subst h
      simp
    | false =>
      rw [hb] at h
      have hne : k ≠ t := fun e => by subst e; rw [Nat.beq_refl] at hb; cases hb
      obtain ⟨h1, h2⟩ := envOf_get r (k + 1) t v h
      refine ⟨by omega, ?_⟩
      rw [show t - k = (t - (k + 1)) + 1 from by omega]
      simpa using h2
section
variable {P : Program} {n : Nat} {R : Ending → World → Prop}
theorem calls_enter {f : FuncId} {fn : Func} {c : Code} {args : List Value} {w : World} (hf : P.funcs[f]? = some fn) (hb : fn.body = some c) (hn : fn.ntmps = n) (hl : Nat.ble args.length n = true)
    (h : @WE noDfs P n c (bodyPost P fn R) (envOf args 0) w) : Calls P f args.toArray w R := by
  have hl' : args.length ≤ n := by simpa using hl
  refine calls_of_wp hf hb (h _ ⟨?_, rfl, fun t v hv => ?_⟩)
  · simp [hn]; omega
  · obtain ⟨_, h2⟩ := envOf_get args 0 t v hv
    simp only [Nat.sub_zero] at h2
    have hlt : t < args.length := (List.getElem?_eq_some_iff.1 h2).1
    simp only []
    rw [Array.getElem?_append_left (by simpa using hlt)]
    simpa using h2
instance semLawful : LawfulMonad Sem := LawfulMonad.mk' Sem (id_map := fun x => Sem.bind_pure' x) (pure_bind := fun _ _ => rfl) (bind_assoc := fun x f g => Sem.bind_assoc' x f g)
/-- results: what the variables of results read -/
def resE (P : Program) (e : Env) : List ResultVar → List Ans → Option (List Value × List Did)
  | [], [] => some ([], [])
  | [], _ :: _ => none
  | .tmp t :: r, ans => match e.get t with
    | some v => match resE P e r ans with
      | some (vs, l) => some (v :: vs, l)
      | none => none
    | none => none
  | .cell p t :: r, ans => match e.get p with
    | some (.pointer (some a)) => match trace P (loadVar t a) ans with
      | some (v, l, ans') => match resE P e r ans' with
        | some (vs, l') => some (v :: vs, l ++ l')
        | none => none
      | none => none
    | _ => none
def resV : List Value → Value
  | [v] => v
  | vs => .tuple vs.toArray
def resF (tmps : Array Value) : ResultVar → Sem Value
  | .tmp t => pure (tmps.getD t undef)
  | .cell p t => do loadVar t (← asAddr (tmps.getD p undef))
theorem results_eq (fn : Func) (tmps : Array Value) : results fn tmps = (do let vs ← fn.results.mapM (resF tmps); pure (if h : vs.size = 1 then vs[0] else .tuple vs)) := by
  unfold results
  congr 1
theorem mapM_res [Dfs] {e : Env} {a : Act} {w : World} (hF : Frm n a e) : ∀ (rs : List ResultVar) {ans : List Ans} {vs : List Value} {l : List Did}, resE P e rs ans = some (vs, l) → Loads l w →
    (rs.mapM (m := Sem) (resF a.tmps)).run P w = .ok vs w
  | [], [], vs, l, h, hl => by simp only [resE, Option.some.injEq, Prod.mk.injEq] at h; obtain ⟨rfl, rfl⟩ := h; rfl
  | [], _ :: _, vs, l, h, hl => by simp [resE] at h
  | .tmp t :: r, ans, vs, l, h, hl => by
    simp only [resE] at h
    split at h
    · rename_i v hv
      split at h
      · rename_i vs' l' hr
        simp only [Option.some.injEq, Prod.mk.injEq] at h
        obtain ⟨rfl, rfl⟩ := h
        have ih := mapM_res hF r hr hl
        have hg := hF.get t v hv
        rw [List.mapM_cons]
        simp only [resF, Sem.run_bind, Sem.run_pure, Result.andThen_ok, ih]
        simp [hg]
      · cases h
    · cases h
  | .cell p t :: r, ans, vs, l, h, hl => by
    simp only [resE] at h
    split at h
    · rename_i ad hv
      split at h
      · rename_i v l1 s1 ht
        split at h
        · rename_i vs' l' hr
          simp only [Option.some.injEq, Prod.mk.injEq] at h
          obtain ⟨rfl, rfl⟩ := h
          obtain ⟨hl1, hl2⟩ := hl.append
          have ih := mapM_res hF r hr hl2
          have hg := hF.get p _ hv
          have hrun := run_of_trace _ ht hl1.goes
          rw [List.mapM_cons]
          have hgd : asAddr (a.tmps.getD p undef) = pure ad := by
            have : a.tmps.getD p undef = .pointer (some ad) := by simp [hg]
            rw [this]; rfl
          simp only [resF, Sem.run_bind, hgd, Sem.run_pure, Result.andThen_ok, hrun, ih]
        · cases h
      · cases h
    · cases h
theorem post_of {fn : Func} {e : Env} {w : World} {rs : List ResultVar} {ans : List Ans} {vs : List Value} {l : List Did} (hr : fn.results.toList = rs) (h : resE P e rs ans = some (vs, l)) (hl : Loads l w) (hR : R (.returned (resV vs)) w) :
    ∀ a, @Frm noDfs n a e → a.defers = [] ∧ ∃ v, (results fn a.tmps).run P w = .ok v w ∧ R (.returned v) w := by
  intro a hF
  refine ⟨hF.defers, _, ?_, hR⟩
  have hm := mapM_res hF rs h hl
  rw [results_eq, ← Array.toArray_toList (xs := fn.results), hr]
  simp only [List.mapM_toArray, Sem.run_bind, Sem.run_map, hm, Result.andThen_ok, Sem.run_pure]
  match vs with
  | [] => rfl
  | [v] => rfl
  | v :: u :: vs => simp [resV]
theorem post_ret {fn : Func} {e : Env} {w : World} {rs : List ResultVar} {ans : List Ans} {vs : List Value} {l : List Did} (hr : fn.results.toList = rs) (h : resE P e rs ans = some (vs, l)) (hl : Loads l w) (hR : R (.returned (resV vs)) w) :
    ∀ a, @Frm noDfs n a e → bodyPost P fn R .ret a w := post_of hr h hl hR
end
end Go.Proofs.Ytchcdadpahakfaa.GV
