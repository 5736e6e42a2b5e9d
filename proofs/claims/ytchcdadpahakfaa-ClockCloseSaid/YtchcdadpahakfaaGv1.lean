/- The walker's core: frames told by what lives in them; regions walked in one order. Written for this work. -/
import Derived.Below
import Derived.Deep.Draws
import Derived.Orders
import Derived.OwnWalk
import Derived.Tactics
import Derived.Tactics2
import Derived.WalkKit
import Derived.WalkLawsBesides
import Derived.WalkSpells
import Derived.KernelRfl
import Derived.RowKit
import Derived.Deep.RegionHeld3
namespace Go.Proofs.Ytchcdadpahakfaa.GV
open Go Go.RowKit
set_option linter.unusedVariables false
set_option linter.unusedSimpArgs false

abbrev Env := List (Nat × Value)
def Env.get : Env → Nat → Option Value
  | [], _ => none
  | (k, v) :: e, t => match Nat.beq k t with | true => some v | false => Env.get e t
def Env.ev (e : Env) : Operand → Option Value
  | .tmp t => e.get t
  | .const v => some v
  | .func f => some (.func (.func f) #[] #[])
  | .global g => some (.pointer (some ⟨g, 0, none⟩))
/-- what is put off -/
class Dfs where
  d : List Deferred
instance noDfs : Dfs := ⟨[]⟩
structure Frm [Dfs] (n : Nat) (a : Act) (e : Env) : Prop where
  size : a.tmps.size = n
  defers : a.defers = Dfs.d
  get : ∀ t v, e.get t = some v → a.tmps[t]? = some v
theorem Frm.ev [Dfs] {n : Nat} {a : Act} {e : Env} (h : Frm n a e) {x : Operand} {v : Value} (hx : e.ev x = some v) : a.eval x = v := by
  cases x with
  | tmp t => have := h.get t v hx; simp [Act.eval, this]
  | const u => simp only [Env.ev, Option.some.injEq] at hx; subst hx; rfl
  | func f => simpa [Env.ev, Act.eval] using hx
  | global g => simpa [Env.ev, Act.eval] using hx
theorem Frm.put [Dfs] {n : Nat} {a : Act} {e : Env} (h : Frm n a e) {d : Nat} (hd : Nat.blt d n = true) (v : Value) : Frm n (a.put (some d) v) ((d, v) :: e) := by
  have hd' : d < n := by simpa [Nat.blt_eq] using hd
  refine ⟨by simp [Act.put, h.size], by simp [Act.put, h.defers], fun t u hu => ?_⟩
  simp only [Env.get] at hu
  cases hb : Nat.beq d t with
  | true =>
    rw [hb] at hu
    have : d = t := Nat.eq_of_beq_eq_true hb
    subst this
    simp only [Option.some.injEq] at hu
    subst hu
    simp [Act.put, h.size, hd']
  | false =>
    rw [hb] at hu
    have hne : d ≠ t := fun e => by subst e; rw [Nat.beq_refl] at hb; cases hb
    simp only [Act.put, Array.getElem?_setIfInBounds_ne hne]
    exact h.get t u hu
/-- what is forgotten, or said anew: each entry of the new list reads so in the old one -/
def Env.all (e : Env) : Env → Prop
  | [] => True
  | (t, v) :: r => e.get t = some v ∧ Env.all e r
theorem Env.all_get {e : Env} : ∀ {r : Env}, Env.all e r → ∀ t v, r.get t = some v → e.get t = some v
  | [], _, t, v, h => by simp [Env.get] at h
  | (k, u) :: r, h, t, v, hv => by
    simp only [Env.get] at hv
    cases hb : Nat.beq k t with
    | true =>
      rw [hb] at hv
      have : k = t := Nat.eq_of_beq_eq_true hb
      subst this
      simp only [Option.some.injEq] at hv
      subst hv
      exact h.1
    | false => rw [hb] at hv; exact Env.all_get h.2 t v hv
theorem Frm.weaken [Dfs] {n : Nat} {a : Act} {e e' : Env} (h : Frm n a e) (k : Env.all e e') : Frm n a e' := ⟨h.size, h.defers, fun t v hv => h.get t v (Env.all_get k t v hv)⟩

abbrev Ext (w w' : World) : Prop := Below w.heap.size w w'
theorem Ext.refl (w : World) : Ext w w := Below.refl _ _
theorem Ext.trans {a b c : World} (h : Ext a b) (k : Ext b c) : Ext a c :=
  Below.trans h ⟨k.os, k.tape, k.output, k.size, fun i hi => k.block i (Nat.lt_of_lt_of_le hi h.size)⟩

section
variable (P : Program) (ops : Array Oper) (Q : Exit → Act → World → Prop)
/-- the operation yields v, here and in every world that grows out of w -/
def Steady (i : Nat) (v : Value) (a : Act) (w : World) : Prop :=
  ∃ o, ops[i]? = some o ∧ ((Region.wanted o (yielded ops a.tmps) = true ∧ ∀ w', Ext w w' → ((execOp a.eval o).run P w' = .ok (.value v) w' ∨ ((execOp a.eval o).run P w' = .ok .skip w' ∧ v = undef))) ∨
    (Region.wanted o (yielded ops a.tmps) = false ∧ v = undef))
def dstOf (i : Nat) : Option Tmp := (ops[i]?).bind (·.dst)
def wpG : List (Nat × Nat) → Act → World → Prop
  | [], a, w => Q .normal a w
  | (i, 0) :: rest, a, w => ∃ v, Steady P ops i v a w ∧ wpG rest (a.put (dstOf ops i) v) w
  | (i, 1) :: rest, a, w => wpOp P ops Q i (fun a' w' => Ext w w' ∧ wpG rest a' w') a w
  | (i, _ + 2) :: rest, a, w => wpOp P ops Q i (fun a' w' => wpG rest a' w') a w
end
section
variable {P : Program} {ops : Array Oper} {Q : Exit → Act → World → Prop}
theorem Steady.wpOp {i : Nat} {v : Value} {a : Act} {w : World} (h : Steady P ops i v a w) {K : Act → World → Prop} (k : K (a.put (dstOf ops i) v) w) : Go.wpOp P ops Q i K a w := by
  obtain ⟨o, ho, h⟩ := h
  unfold Go.wpOp
  simp only [dstOf, ho, Option.bind_some] at k
  simp only [ho]
  rcases h with ⟨hw, h⟩ | ⟨hw, rfl⟩
  · simp only [hw, if_true]
    refine .inl ?_
    rcases h w (Ext.refl w) with h1 | ⟨h1, hv⟩
    · unfold Oper.wp; rw [h1]; exact k
    · unfold Oper.wp; rw [h1]; rw [hv] at k; exact k
  · simp only [hw, Bool.false_eq_true, if_false]; exact k
theorem wpOps_of_wpG : ∀ (l : List (Nat × Nat)) (a : Act) (w : World), wpG P ops Q l a w → wpOps P ops Q (l.map (·.1)) a w
  | [], a, w, h => h
  | (i, 0) :: rest, a, w, h => by
    obtain ⟨v, h1, h2⟩ := h
    rw [List.map_cons, wpOps_cons]
    exact h1.wpOp (wpOps_of_wpG rest _ _ h2)
  | (i, 1) :: rest, a, w, h => by
    rw [List.map_cons, wpOps_cons]
    exact wpOp_mono (fun a' w' hh => wpOps_of_wpG rest a' w' hh.2) h
  | (i, _ + 2) :: rest, a, w, h => by
    rw [List.map_cons, wpOps_cons]
    exact wpOp_mono (fun a' w' hh => wpOps_of_wpG rest a' w' hh) h
theorem wp_region_G {id : Nat} {a : Act} {w : World} (order : List (Nat × Nat)) (ho : order.map (·.1) = List.range ops.size) (h : wpG P ops Q order a w) : (Code.region id ops false).wp P Q a w :=
  wp_region (ho ▸ wpOps_of_wpG order a w h)
end

/-- the order is let: a steady operation is ready, apart from all that don't wait for it, and all of kind 2 wait for it; any other operation is the only one that is ready -/
def canon (ops : Array Oper) : List (Nat × Nat) → Array Bool → Bool
  | [], listed => (Region.ready .any ops listed).isEmpty
  | (i, 0) :: rest, listed =>
    (Region.ready .any ops listed).contains i && Region.free .any ops listed i &&
      (rest.all fun x => Nat.ble x.2 1 || match ops[x.1]? with | some o => o.after.any (fun e => Region.binds .any e && e.on == i) | none => false) &&
      canon ops rest (listed.setIfInBounds i true)
  | (i, _ + 1) :: rest, listed => Region.ready .any ops listed == [i] && canon ops rest (listed.setIfInBounds i true)
section
variable {P : Program} {ops : Array Oper} {Q : Exit → Act → World → Prop}
/-- wpAny, the worlds of operations not of kind 2 only growing -/
def wpAnyX (P : Program) (ops : Array Oper) (Q : Exit → Act → World → Prop) (two : Nat → Bool) : Nat → Array Bool → Act → World → Prop
  | 0, listed, a, w => Region.ready .any ops listed = [] ∧ Q .normal a w
  | fuel + 1, listed, a, w =>
    (Region.ready .any ops listed = [] → Q .normal a w) ∧
    ∀ i ∈ Region.ready .any ops listed, wpOp P ops Q i (fun a' w' => (two i = false → Ext w w') ∧ wpAnyX P ops Q two fuel (listed.setIfInBounds i true) a' w') a w
theorem wpAny_of_X {two : Nat → Bool} : ∀ (fuel : Nat) (listed : Array Bool) (a : Act) (w : World), wpAnyX P ops Q two fuel listed a w → wpAny P .any ops Q fuel listed a w
  | 0, _, _, _, h => h
  | fuel + 1, _, _, _, h => ⟨h.1, fun i hi => wpOp_mono (fun a' w' hh => wpAny_of_X fuel _ a' w' hh.2) (h.2 i hi)⟩
theorem Steady.of_same {i : Nat} {o : Oper} {v : Value} {a a' : Act} {w : World} (hi : ops[i]? = some o) (h : Steady P ops i v a w) (he : execOp a'.eval o = execOp a.eval o)
    (hw : Region.wanted o (yielded ops a'.tmps) = Region.wanted o (yielded ops a.tmps)) : Steady P ops i v a' w := by
  obtain ⟨o', ho', h⟩ := h
  obtain rfl : o' = o := by rw [hi] at ho'; exact (Option.some.inj ho').symm
  exact ⟨o', hi, by rw [he, hw]; exact h⟩
theorem Steady.ext {i : Nat} {v : Value} {a : Act} {w w' : World} (h : Steady P ops i v a w) (k : Ext w w') : Steady P ops i v a w' := by
  obtain ⟨o, ho, h⟩ := h
  refine ⟨o, ho, ?_⟩
  rcases h with ⟨hw, h⟩ | h
  · exact .inl ⟨hw, fun w2 h2 => h w2 (k.trans h2)⟩
  · exact .inr h
/-- one operation, apart from a steady one whose value may already be there -/
theorem wpOp_putX {i j : Nat} {oi oj : Oper} {v : Value} (hi : ops[i]? = some oi) (hj : ops[j]? = some oj) (hap : oi.apart ops oj = true)
    (hsi : ∀ cs b, oi.op ≠ .select cs b) (hsj : ∀ cs b, oj.op ≠ .select cs b)
    (hQ : ∀ c a w d v, Q (.panic c) (a.put d v) w → Q (.panic c) a w) {K : Act → World → Prop} {a : Act} {w : World}
    (hy : Steady P ops i v a w) (h : wpOp P ops Q j (fun a' w' => Ext w w' ∧ K a' w') (a.put oi.dst v) w) :
    wpOp P ops Q j (fun a' w' => Ext w w' ∧ Steady P ops i v a' w' ∧ K (a'.put oi.dst v) w') a w := by
  obtain ⟨h1, h2, h3⟩ := Oper.apart_spec hap
  have keep : ∀ (a : Act), Steady P ops i v a w → ∀ u, Steady P ops i v (a.put oj.dst u) w := fun a hy u =>
    hy.of_same hi (execOp_put oi hsi a oj.dst u h3) (wanted_put oi a oj.dst u h3)
  have keepD : ∀ d, Steady P ops i v { a with defers := d :: a.defers } w := fun d => hy.of_same hi rfl rfl
  unfold Go.wpOp at *
  simp only [hj] at *
  rw [wanted_put oj a oi.dst v h1] at h
  split
  · rename_i hw
    simp only [hw, if_true] at h
    rcases h with h | ⟨hasks, hlets⟩
    case inr => exact .inr ⟨by unfold Oper.asks at *; rw [execOp_put oj hsj a oi.dst v h1] at hasks; exact hasks, hlets⟩
    refine .inl ?_
    unfold Oper.wp at *
    rw [execOp_put oj hsj a oi.dst v h1] at h
    generalize (execOp a.eval oj).run P w = r at *
    cases r with
    | ok n w' =>
      cases n <;> simp only [Oper.upon] at h ⊢
      case value u => exact ⟨h.1, (keep a hy u).ext h.1, by rw [← Act.put_comm a v u h2]; exact h.2⟩
      case skip => exact ⟨h.1, (keep a hy _).ext h.1, by rw [← Act.put_comm a v undef h2]; exact h.2⟩
      case defer d =>
        refine ⟨h.1, (keep _ (keepD d) _).ext h.1, ?_⟩
        rw [← Act.put_comm _ v undef h2, ← Act.put_defers]
        exact h.2
      case enter f args =>
        refine Calls.mono h fun e w'' he => ?_
        cases e with
        | returned u => exact ⟨he.1, (keep a hy u).ext he.1, by rw [← Act.put_comm a v u h2]; exact he.2⟩
        | panicked c => exact hQ _ _ _ _ _ he
        | outgrown => exact he
      case row row args => exact Rows.mono h fun u w'' he => ⟨he.1, (keep a hy u).ext he.1, by rw [← Act.put_comm a v u h2]; exact he.2⟩
    | halt x w' =>
      cases x <;> simp only [Oper.upon] at h ⊢
      case panic u => exact hQ _ _ _ _ _ h
  · rename_i hw
    simp only [hw] at h
    exact ⟨h.1, (keep a hy _).ext h.1, by rw [← Act.put_comm a v undef h2]; exact h.2⟩
theorem wpAnyX_first {two : Nat → Bool} {i : Nat} {oi : Oper} {v : Value} (hi : ops[i]? = some oi) (hsel : ∀ (j : Nat) (o : Oper) cs b, ops[j]? = some o → o.op ≠ .select cs b)
    (hQ : ∀ c a w d v, Q (.panic c) (a.put d v) w → Q (.panic c) a w) (h2i : two i = false) :
    ∀ (fuel : Nat) (listed : Array Bool) (a : Act) (w : World),
      (∀ j oj, ops[j]? = some oj → j ≠ i → listed.getD j true = false → (∀ e ∈ oj.after, Region.binds .any e = true → e.on ≠ i) → oi.apart ops oj = true ∧ two j = false) →
      i ∈ Region.ready .any ops listed → Steady P ops i v a w →
      wpAnyX P ops Q two fuel (listed.setIfInBounds i true) (a.put oi.dst v) w → wpAnyX P ops Q two (fuel + 1) listed a w := by
  have hdst : dstOf ops i = oi.dst := by simp [dstOf, hi]
  intro fuel
  induction fuel with
  | zero =>
    intro listed a w _ hr hy H
    refine ⟨fun h => (by rw [h] at hr; cases hr), fun j hj => ?_⟩
    by_cases hji : j = i
    · subst hji; exact hy.wpOp (by rw [hdst]; exact ⟨fun _ => Ext.refl _, H⟩)
    · have := ready_mono hj hji
      rw [H.1] at this
      cases this
  | succ fuel ih =>
    intro listed a w hfree hr hy H
    refine ⟨fun h => (by rw [h] at hr; cases hr), fun j hj => ?_⟩
    by_cases hji : j = i
    · subst hji; exact hy.wpOp (by rw [hdst]; exact ⟨fun _ => Ext.refl _, H⟩)
    · have h1 := H.2 j (ready_mono hj hji)
      obtain ⟨hjun, oj, hoj, hall⟩ := mem_ready.1 hj
      have hnot : ∀ e ∈ oj.after, Region.binds .any e = true → e.on ≠ i := fun e he hb heq => by
        have h1 := hall e he hb
        have h0 := (mem_ready.1 hr).1
        rw [heq] at h1
        rcases Nat.lt_or_ge i listed.size with h' | h'
        · simp [h'] at h0 h1; rw [h0] at h1; cases h1
        · simp [Array.getElem?_eq_none h'] at h1
      obtain ⟨hap, h2j⟩ := hfree j oj hoj hji hjun hnot
      have h1' := wpOp_mono (K' := fun a' w' => Ext w w' ∧ wpAnyX P ops Q two fuel ((listed.setIfInBounds i true).setIfInBounds j true) a' w') (fun a' w' hh => ⟨hh.1 h2j, hh.2⟩) h1
      have h2 := wpOp_putX hi hoj hap (fun cs b => hsel i oi cs b hi) (fun cs b => hsel j oj cs b hoj) hQ hy h1'
      have hfree' : ∀ k ok, ops[k]? = some ok → k ≠ i → (listed.setIfInBounds j true).getD k true = false →
          (∀ e ∈ ok.after, Region.binds .any e = true → e.on ≠ i) → oi.apart ops ok = true ∧ two k = false := fun k ok hk hki hun hno => by
        refine hfree k ok hk hki ?_ hno
        by_cases hjk : j = k
        · subst hjk; exact hjun
        · rw [getD_set_ne true hjk] at hun; exact hun
      refine wpOp_mono (fun a' w' h3 => ⟨fun _ => h3.1, ih (listed.setIfInBounds j true) a' w' hfree' (ready_mono hr (Ne.symm hji)) h3.2.1 ?_⟩) h2
      rw [Array.setIfInBounds_comm _ _ hji]
      exact h3.2.2
def twoOf (order : List (Nat × Nat)) (i : Nat) : Bool := order.any fun x => x.1 == i && Nat.blt 1 x.2
theorem wpAnyX_of_G (hsel : Region.noSelect ops = true) (hQ : ∀ c a w d v, Q (.panic c) (a.put d v) w → Q (.panic c) a w) (two : Nat → Bool) :
    ∀ (order : List (Nat × Nat)) (listed : Array Bool) (a : Act) (w : World), (∀ x ∈ order, two x.1 = Nat.blt 1 x.2) → (∀ j, listed.getD j true = false → ∃ k, (j, k) ∈ order) →
      canon ops order listed = true → wpG P ops Q order a w → wpAnyX P ops Q two order.length listed a w
  | [], listed, a, w, _, _, hc, h => by
    simp only [canon, List.isEmpty_iff] at hc
    exact ⟨hc, h⟩
  | (i, 0) :: rest, listed, a, w, h2, hl, hc, h => by
    simp only [canon, Bool.and_eq_true] at hc
    obtain ⟨⟨⟨hr, hf⟩, hw⟩, hc⟩ := hc
    obtain ⟨v, hy, h⟩ := h
    obtain ⟨oi, hi, hy'⟩ := hy
    have hdst : dstOf ops i = oi.dst := by simp [dstOf, hi]
    have hl' : ∀ j, (listed.setIfInBounds i true).getD j true = false → ∃ k, (j, k) ∈ rest := fun j hj => by
      by_cases hij : i = j
      · subst hij
        rcases Nat.lt_or_ge i listed.size with h' | h'
        · simp [h'] at hj
        · simp [Array.getElem?_eq_none, h'] at hj
      · rw [getD_set_ne true hij] at hj
        obtain ⟨k, hk⟩ := hl j hj
        rcases List.mem_cons.1 hk with hk | hk
        · exact absurd (congrArg Prod.fst hk).symm hij
        · exact ⟨k, hk⟩
    refine wpAnyX_first hi (Region.noSelect_spec hsel) hQ ((h2 (i, 0) (by simp)).trans rfl) rest.length listed a w (fun j oj hj hne hun hno => ?_) (by simpa using hr) ⟨oi, hi, hy'⟩
      (wpAnyX_of_G hsel hQ two rest _ _ w (fun x hx => h2 x (List.mem_cons_of_mem _ hx)) hl' hc (hdst ▸ h))
    refine ⟨Region.free_spec hi hf j oj hj hne hun hno, ?_⟩
    obtain ⟨k, hk⟩ := hl j hun
    rcases List.mem_cons.1 hk with hk | hk
    · exact absurd (congrArg Prod.fst hk) hne
    · have hx := List.all_eq_true.1 hw (j, k) hk
      rw [h2 (j, k) (List.mem_cons_of_mem _ hk)]
      simp only [hj, Bool.or_eq_true] at hx
      rcases hx with hx | hx
      · have : k ≤ 1 := by simpa using hx
        cases hb : Nat.blt 1 k with
        | false => rfl
        | true => have := Nat.blt_eq ▸ hb; simp [Nat.blt_eq] at hb; omega
      · obtain ⟨e, he, hb⟩ := Array.any_eq_true'.1 hx
        simp only [Bool.and_eq_true, beq_iff_eq] at hb
        exact absurd hb.2 (hno e he hb.1)
  | (i, 1) :: rest, listed, a, w, h2, hl, hc, h => by
    simp only [canon, Bool.and_eq_true, beq_iff_eq] at hc
    have hl' : ∀ j, (listed.setIfInBounds i true).getD j true = false → ∃ k, (j, k) ∈ rest := fun j hj => by
      by_cases hij : i = j
      · subst hij
        rcases Nat.lt_or_ge i listed.size with h' | h'
        · simp [h'] at hj
        · simp [Array.getElem?_eq_none, h'] at hj
      · rw [getD_set_ne true hij] at hj
        obtain ⟨k, hk⟩ := hl j hj
        rcases List.mem_cons.1 hk with hk | hk
        · exact absurd (congrArg Prod.fst hk).symm hij
        · exact ⟨k, hk⟩
    refine ⟨fun h0 => (by rw [h0] at hc; cases hc.1), fun j hj => ?_⟩
    rw [hc.1] at hj
    obtain rfl : j = i := by simpa using hj
    exact wpOp_mono (fun a' w' hh => ⟨fun _ => hh.1, wpAnyX_of_G hsel hQ two rest _ a' w' (fun x hx => h2 x (List.mem_cons_of_mem _ hx)) hl' hc.2 hh.2⟩) h
  | (i, m + 2) :: rest, listed, a, w, h2, hl, hc, h => by
    simp only [canon, Bool.and_eq_true, beq_iff_eq] at hc
    have hl' : ∀ j, (listed.setIfInBounds i true).getD j true = false → ∃ k, (j, k) ∈ rest := fun j hj => by
      by_cases hij : i = j
      · subst hij
        rcases Nat.lt_or_ge i listed.size with h' | h'
        · simp [h'] at hj
        · simp [Array.getElem?_eq_none, h'] at hj
      · rw [getD_set_ne true hij] at hj
        obtain ⟨k, hk⟩ := hl j hj
        rcases List.mem_cons.1 hk with hk | hk
        · exact absurd (congrArg Prod.fst hk).symm hij
        · exact ⟨k, hk⟩
    refine ⟨fun h0 => (by rw [h0] at hc; cases hc.1), fun j hj => ?_⟩
    rw [hc.1] at hj
    obtain rfl : j = i := by simpa using hj
    have h2i : two j = true := by rw [h2 (j, m + 2) (by simp)]; simp [Nat.blt_eq]
    exact wpOp_mono (fun a' w' hh => ⟨fun h0 => (by rw [h2i] at h0; cases h0), wpAnyX_of_G hsel hQ two rest _ a' w' (fun x hx => h2 x (List.mem_cons_of_mem _ hx)) hl' hc.2 hh⟩) h
/-- each number once, all of them, the order let -/
def canonAll (ops : Array Oper) (order : List (Nat × Nat)) : Bool :=
  Region.noSelect ops && canon ops order (Array.replicate ops.size false) && order.length == ops.size && (order.all fun x => twoOf order x.1 == Nat.blt 1 x.2) && ((List.range ops.size).all fun j => order.any fun x => x.1 == j)
theorem wp_region_drawsP {id : Nat} {a : Act} {w : World} (hm : P.follows .mixedOrders = true) (hQ : ∀ c a w d v, Q (.panic c) (a.put d v) w → Q (.panic c) a w) (order : List (Nat × Nat)) (hc : canonAll ops order = true)
    (h : wpG P ops Q order a w.drew) : (Code.region id ops true).wp P Q a w := by
  simp only [canonAll, Bool.and_eq_true, beq_iff_eq] at hc
  obtain ⟨⟨⟨⟨hs, hc⟩, hlen⟩, htwo⟩, hall⟩ := hc
  refine wp_region_any hm ?_
  rw [← hlen]
  refine wpAny_of_X (two := twoOf order) order.length _ a _ (wpAnyX_of_G hs hQ _ order _ a _ (fun x hx => by simpa using List.all_eq_true.1 htwo x hx) (fun j hj => ?_) ?_ h)
  · have hjn : j < ops.size := by
      rcases Nat.lt_or_ge j ops.size with h' | h'
      · exact h'
      · rw [hlen] at hj
        simp [Array.getElem?_eq_none, h'] at hj
    have := List.all_eq_true.1 hall j (List.mem_range.2 hjn)
    obtain ⟨x, hx, hxj⟩ := List.any_eq_true.1 this
    exact ⟨x.2, by have := beq_iff_eq.1 hxj; rw [← this]; exact hx⟩
  · rw [hlen]; exact hc
theorem wp_region_draws {id : Nat} {a : Act} {w : World} (hm : P.follows .mixedOrders = true) (order : List (Nat × Nat)) (hc : canonAll ops order = true)
    (h : wpG P ops (NoPanic Q) order a w.drew) : (Code.region id ops true).wp P Q a w := wp_region_noPanic (wp_region_drawsP hm (fun _ _ _ _ _ h => h) order hc h)
end
end Go.Proofs.Ytchcdadpahakfaa.GV
