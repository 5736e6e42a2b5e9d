/- The walker's core, 31st part: regions of several orders; what waits through others counts (most statements by program from the 20th and 24th part). Written for this work. -/
import Derived.Test.YtchcdadpahakfaaGv29
namespace Go.Proofs.Ytchcdadpahakfaa.GV
open Go Go.RowKit
set_option linter.unusedVariables false
set_option linter.unusedSimpArgs false
/-- a load, its addresses; operations that wait for it; operations that it waits for -/
abbrev Al := Nat × List Addr × List Nat × List Nat
def adr3 : List Al → Nat → List Addr
  | [], _ => []
  | (j, l, _) :: r, i => match Nat.beq j i with | true => l ++ adr3 r i | false => adr3 r i
def chainW (ops : Array Oper) (i : Nat) : List Nat → List Nat → Bool
  | _, [] => true
  | seen, j :: r => (bound ops j i || seen.any (fun k => bound ops j k)) && chainW ops i (j :: seen) r
def chainP (ops : Array Oper) (i : Nat) : List Nat → List Nat → Bool
  | _, [] => true
  | seen, p :: r => (bound ops i p || seen.any (fun k => bound ops k p)) && chainP ops i (p :: seen) r
def alOk (ops : Array Oper) (al : List Al) : Bool := al.all fun x => chainW ops x.1 [] x.2.2.1 && chainP ops x.1 [] x.2.2.2
/-- what an effect must leave as it is -/
def Sof3 (ops : Array Oper) : List Al → Nat → List Addr
  | [], _ => []
  | (i, l, ws, ps) :: r, j => match bound ops j i || ws.contains j || ps.contains j with | true => Sof3 ops r j | false => l ++ Sof3 ops r j
def Closed (ops : Array Oper) (listed : Array Bool) : Prop := ∀ (j : Nat) (oj : Oper), ops[j]? = some oj → listed.getD j false = true → ∀ e ∈ oj.after, Region.binds .any e = true → listed.getD e.on false = true
theorem Closed.set {ops : Array Oper} {listed : Array Bool} (h : Closed ops listed) {j : Nat} (hj : j ∈ Region.ready .any ops listed) : Closed ops (listed.setIfInBounds j true) := by
  intro k ok hk hl e he hb
  by_cases hkj : j = k
  · subst hkj
    obtain ⟨_, o, ho, hall⟩ := mem_ready.1 hj
    obtain rfl : o = ok := by rw [hk] at ho; exact (Option.some.inj ho).symm
    exact getD_set_true (hall e he hb)
  · rw [getD_set_ne false hkj] at hl
    exact getD_set_true (h k ok hk hl e he hb)
theorem bound_dep {ops : Array Oper} {j i : Nat} (h : bound ops j i = true) : ∃ o, ops[j]? = some o ∧ ∃ e ∈ o.after, Region.binds .any e = true ∧ e.on = i := by
  unfold bound at h
  cases ho : ops[j]? with
  | none => rw [ho] at h; cases h
  | some o =>
    rw [ho] at h
    obtain ⟨e, he, h⟩ := Array.any_eq_true'.1 h
    simp only [Bool.and_eq_true, beq_iff_eq] at h
    exact ⟨o, rfl, e, he, h.1, h.2⟩
theorem ws_listed {ops : Array Oper} {listed : Array Bool} (hc : Closed ops listed) {i : Nat} : ∀ (ws seen : List Nat), chainW ops i seen ws = true → (∀ k ∈ seen, listed.getD k false = true → listed.getD i false = true) →
    ∀ j ∈ ws, (∀ oj, ops[j]? = some oj → ∀ e ∈ oj.after, Region.binds .any e = true → listed.getD e.on false = true) → listed.getD i false = true
  | [], _, _, _, j, hj, _ => by cases hj
  | k :: ws, seen, h, hs, j, hj, hr => by
    simp only [chainW, Bool.and_eq_true, Bool.or_eq_true, List.any_eq_true] at h
    have key : ∀ (hr : ∀ oj, ops[k]? = some oj → ∀ e ∈ oj.after, Region.binds .any e = true → listed.getD e.on false = true), listed.getD i false = true := fun hr => by
      rcases h.1 with h1 | ⟨x, hx, h1⟩
      · obtain ⟨o, ho, e, he, hb, hon⟩ := bound_dep h1
        have := hr o ho e he hb
        rwa [hon] at this
      · obtain ⟨o, ho, e, he, hb, hon⟩ := bound_dep h1
        have := hr o ho e he hb
        rw [hon] at this
        exact hs x hx this
    rcases List.mem_cons.1 hj with rfl | hj
    · exact key hr
    · refine ws_listed hc ws (k :: seen) h.2 (fun x hx hl => ?_) j hj hr
      rcases List.mem_cons.1 hx with rfl | hx
      · exact key (fun o ho e he hb => hc _ o ho hl e he hb)
      · exact hs x hx hl
theorem ps_listed {ops : Array Oper} {listed : Array Bool} (hc : Closed ops listed) {i : Nat} (hi : ∀ oi, ops[i]? = some oi → ∀ e ∈ oi.after, Region.binds .any e = true → listed.getD e.on false = true) : ∀ (ps seen : List Nat), chainP ops i seen ps = true → (∀ k ∈ seen, listed.getD k false = true) →
    ∀ p ∈ ps, listed.getD p false = true
  | [], _, _, _, j, hj => by cases hj
  | k :: ps, seen, h, hs, j, hj => by
    simp only [chainP, Bool.and_eq_true, Bool.or_eq_true, List.any_eq_true] at h
    have key : listed.getD k false = true := by
      rcases h.1 with h1 | ⟨x, hx, h1⟩
      · obtain ⟨o, ho, e, he, hb, hon⟩ := bound_dep h1
        have := hi o ho e he hb
        rwa [hon] at this
      · obtain ⟨o, ho, e, he, hb, hon⟩ := bound_dep h1
        have := hc x o ho (hs x hx) e he hb
        rwa [hon] at this
    rcases List.mem_cons.1 hj with rfl | hj
    · exact key
    · refine ps_listed hc hi ps (k :: seen) h.2 (fun x hx => ?_) j hj
      rcases List.mem_cons.1 hx with rfl | hx
      · exact key
      · exact hs x hx
theorem not_listed {listed : Array Bool} {j : Nat} (h : listed.getD j true = false) : ¬ listed.getD j false = true := fun k => by
  rcases Nat.lt_or_ge j listed.size with h' | h'
  · simp [h'] at h k; rw [h] at k; cases k
  · simp [Array.getElem?_eq_none h'] at k
theorem RS_adr3 {ops : Array Oper} {al : List Al} {i j : Nat} {oj : Oper} {w w' : World} (hj : ops[j]? = some oj) (hn : ∀ e ∈ oj.after, Region.binds .any e = true → e.on ≠ i)
    (hx : ∀ l ws ps, (i, l, ws, ps) ∈ al → j ∉ ws ∧ j ∉ ps) (h : RS (Sof3 ops al j) w w') : RS (adr3 al i) w w' := by
  have hb : bound ops j i = false := by
    unfold bound
    rw [hj]
    simp only
    rw [Array.any_eq_false']
    intro e he
    simp only [Bool.and_eq_true, beq_iff_eq, not_and]
    exact fun hb => hn e he hb
  have key : ∀ (al : List Al) (hx : ∀ l ws ps, (i, l, ws, ps) ∈ al → j ∉ ws ∧ j ∉ ps) (a : Addr), a ∈ adr3 al i → a ∈ Sof3 ops al j := by
    intro al
    induction al with
    | nil => intro _ a ha; cases ha
    | cons p r ih =>
      obtain ⟨q, l, ws, ps⟩ := p
      intro hx a ha
      have ih := ih (fun l ws ps hm => hx l ws ps (List.mem_cons_of_mem _ hm))
      simp only [adr3] at ha
      simp only [Sof3]
      cases hq : Nat.beq q i with
      | true =>
        have : q = i := Nat.eq_of_beq_eq_true hq
        subst this
        rw [hq] at ha
        obtain ⟨g1, g2⟩ := hx l ws ps (List.mem_cons_self ..)
        have h1 : ws.contains j = false := by simpa using g1
        have h2 : ps.contains j = false := by simpa using g2
        rw [hb, h1, h2]
        rcases List.mem_append.1 ha with ha | ha
        · exact List.mem_append_left _ ha
        · exact List.mem_append_right _ (ih a ha)
      | false =>
        rw [hq] at ha
        cases bound ops j q || ws.contains j || ps.contains j with
        | true => exact ih a ha
        | false => exact List.mem_append_right _ (ih a ha)
  exact fun a ha => h a (key al hx a ha)
section
variable (P : Program) (ops : Array Oper) (al : List Al)
def SteadyR3 (i : Nat) (v : Value) (a : Act) (w : World) : Prop :=
  ∃ o, ops[i]? = some o ∧ ((Region.wanted o (yielded ops a.tmps) = true ∧ ∀ w', RS (adr3 al i) w w' → ((execOp a.eval o).run P w' = .ok (.value v) w')) ∨
    (Region.wanted o (yielded ops a.tmps) = false ∧ v = undef))
def valsR3 (K : Act → World → Prop) : List Nat → Act → World → Prop
  | [], a, w => K a w
  | i :: l, a, w => ∃ v, SteadyR3 P ops al i v a w ∧ valsR3 K l (a.put (dstOf ops i) v) w
def wpO3 (Q : Exit → Act → World → Prop) : Ord → Act → World → Prop
  | .fin, a, w => Q .normal a w
  | .vals l r, a, w => valsR3 P ops al (wpO3 Q r) l a w
  | .alt i k r more, a, w => wpOp P ops Q i (fun a' w' => RS (Sof3 ops al i) w w' ∧ wpO3 Q r a' w') a w ∧ wpO3 Q more a w
  | .nomore, _, _ => True
def wpAnyR3 (Q : Exit → Act → World → Prop) : Nat → Array Bool → Act → World → Prop
  | 0, listed, a, w => Region.ready .any ops listed = [] ∧ Q .normal a w
  | fuel + 1, listed, a, w =>
    (Region.ready .any ops listed = [] → Q .normal a w) ∧
    ∀ i ∈ Region.ready .any ops listed, wpOp P ops Q i (fun a' w' => RS (Sof3 ops al i) w w' ∧ wpAnyR3 Q fuel (listed.setIfInBounds i true) a' w') a w
end
section
variable {P : Program} {ops : Array Oper} {al : List Al} {Q : Exit → Act → World → Prop}
theorem wpAny_of_R3 : ∀ (fuel : Nat) (listed : Array Bool) (a : Act) (w : World), wpAnyR3 P ops al Q fuel listed a w → wpAny P .any ops Q fuel listed a w
  | 0, _, _, _, h => h
  | fuel + 1, _, _, _, h => ⟨h.1, fun i hi => wpOp_mono (fun a' w' hh => wpAny_of_R3 fuel _ a' w' hh.2) (h.2 i hi)⟩
theorem SteadyR3.wpOp {i : Nat} {v : Value} {a : Act} {w : World} (h : SteadyR3 P ops al i v a w) {K : Act → World → Prop} (k : K (a.put (dstOf ops i) v) w) : Go.wpOp P ops Q i K a w := by
  obtain ⟨o, ho, h⟩ := h
  unfold Go.wpOp
  simp only [dstOf, ho, Option.bind_some] at k
  simp only [ho]
  rcases h with ⟨hw, h⟩ | ⟨hw, rfl⟩
  · simp only [hw, if_true]
    refine .inl ?_
    unfold Oper.wp; rw [h w (RS.refl _ w)]; exact k
  · simp only [hw, Bool.false_eq_true, if_false]; exact k
theorem SteadyR3.of_same {i : Nat} {o : Oper} {v : Value} {a a' : Act} {w : World} (hi : ops[i]? = some o) (h : SteadyR3 P ops al i v a w) (he : execOp a'.eval o = execOp a.eval o)
    (hw : Region.wanted o (yielded ops a'.tmps) = Region.wanted o (yielded ops a.tmps)) : SteadyR3 P ops al i v a' w := by
  obtain ⟨o', ho', h⟩ := h
  obtain rfl : o' = o := by rw [hi] at ho'; exact (Option.some.inj ho').symm
  exact ⟨o', hi, by rw [he, hw]; exact h⟩
theorem SteadyR3.ext {i : Nat} {v : Value} {a : Act} {w w' : World} (h : SteadyR3 P ops al i v a w) (k : RS (adr3 al i) w w') : SteadyR3 P ops al i v a w' := by
  obtain ⟨o, ho, h⟩ := h
  refine ⟨o, ho, ?_⟩
  rcases h with ⟨hw, h⟩ | h
  · exact .inl ⟨hw, fun w2 h2 => h w2 (k.trans h2)⟩
  · exact .inr h
theorem wpOp_putR3 {i j : Nat} {oi oj : Oper} {v : Value} (hi : ops[i]? = some oi) (hj : ops[j]? = some oj) (hap : oi.apart ops oj = true)
    (hsi : ∀ cs b, oi.op ≠ .select cs b) (hsj : ∀ cs b, oj.op ≠ .select cs b)
    (hQ : ∀ c a w d v, Q (.panic c) (a.put d v) w → Q (.panic c) a w) (hs : ∀ w w', RS (Sof3 ops al j) w w' → RS (adr3 al i) w w') {K : Act → World → Prop} {a : Act} {w : World}
    (hy : SteadyR3 P ops al i v a w) (h : wpOp P ops Q j (fun a' w' => RS (Sof3 ops al j) w w' ∧ K a' w') (a.put oi.dst v) w) :
    wpOp P ops Q j (fun a' w' => RS (Sof3 ops al j) w w' ∧ SteadyR3 P ops al i v a' w' ∧ K (a'.put oi.dst v) w') a w := by
  obtain ⟨h1, h2, h3⟩ := Oper.apart_spec hap
  have keep : ∀ (a : Act), SteadyR3 P ops al i v a w → ∀ u, SteadyR3 P ops al i v (a.put oj.dst u) w := fun a hy u =>
    hy.of_same hi (execOp_put oi hsi a oj.dst u h3) (wanted_put oi a oj.dst u h3)
  have keepD : ∀ d, SteadyR3 P ops al i v { a with defers := d :: a.defers } w := fun d => hy.of_same hi rfl rfl
  unfold Go.wpOp at *
  simp only [hj] at *
  rw [wanted_put oj a oi.dst v h1] at h
  split
  · rename_i hw
    simp only [hw, if_true] at h
    rcases h with h | ⟨hasks, hlets⟩
    case inr => exact .inr ⟨by unfold Oper.asks at *; rw [execOp_put oj hsj a oi.dst v h1] at hasks; exact hasks, hlets⟩
    refine .inl ?_
    unfold Oper.wp at *
    rw [execOp_put oj hsj a oi.dst v h1] at h
    generalize (execOp a.eval oj).run P w = r at *
    cases r with
    | ok n w' =>
      cases n <;> simp only [Oper.upon] at h ⊢
      case value u => exact ⟨h.1, (keep a hy u).ext (hs _ _ h.1), by rw [← Act.put_comm a v u h2]; exact h.2⟩
      case skip => exact ⟨h.1, (keep a hy _).ext (hs _ _ h.1), by rw [← Act.put_comm a v undef h2]; exact h.2⟩
      case defer d =>
        refine ⟨h.1, (keep _ (keepD d) _).ext (hs _ _ h.1), ?_⟩
        rw [← Act.put_comm _ v undef h2, ← Act.put_defers]
        exact h.2
      case enter f args =>
        refine Calls.mono h fun e w'' he => ?_
        cases e with
        | returned u => exact ⟨he.1, (keep a hy u).ext (hs _ _ he.1), by rw [← Act.put_comm a v u h2]; exact he.2⟩
        | panicked c => exact hQ _ _ _ _ _ he
        | outgrown => exact he
      case row row args => exact Rows.mono h fun u w'' he => ⟨he.1, (keep a hy u).ext (hs _ _ he.1), by rw [← Act.put_comm a v u h2]; exact he.2⟩
    | halt x w' =>
      cases x <;> simp only [Oper.upon] at h ⊢
      case panic u => exact hQ _ _ _ _ _ h
  · rename_i hw
    simp only [hw] at h
    exact ⟨h.1, (keep a hy _).ext (hs _ _ h.1), by rw [← Act.put_comm a v undef h2]; exact h.2⟩
theorem wpAnyR_first3 (hal : alOk ops al = true) {i : Nat} {oi : Oper} {v : Value} (hi : ops[i]? = some oi) (hsel : ∀ (j : Nat) (o : Oper) cs b, ops[j]? = some o → o.op ≠ .select cs b)
    (hQ : ∀ c a w d v, Q (.panic c) (a.put d v) w → Q (.panic c) a w) :
    ∀ (fuel : Nat) (listed : Array Bool) (a : Act) (w : World),
      (∀ j oj, ops[j]? = some oj → j ≠ i → listed.getD j true = false → (∀ e ∈ oj.after, Region.binds .any e = true → e.on ≠ i) → oi.apart ops oj = true) →
      Closed ops listed → i ∈ Region.ready .any ops listed → SteadyR3 P ops al i v a w →
      wpAnyR3 P ops al Q fuel (listed.setIfInBounds i true) (a.put oi.dst v) w → wpAnyR3 P ops al Q (fuel + 1) listed a w := by
  have hdst : dstOf ops i = oi.dst := by simp [dstOf, hi]
  intro fuel
  induction fuel with
  | zero =>
    intro listed a w _ hcl hr hy H
    refine ⟨fun h => (by rw [h] at hr; cases hr), fun j hj => ?_⟩
    by_cases hji : j = i
    · subst hji; exact hy.wpOp (by rw [hdst]; exact ⟨RS.refl _ _, H⟩)
    · have := ready_mono hj hji
      rw [H.1] at this
      cases this
  | succ fuel ih =>
    intro listed a w hfree hcl hr hy H
    refine ⟨fun h => (by rw [h] at hr; cases hr), fun j hj => ?_⟩
    by_cases hji : j = i
    · subst hji; exact hy.wpOp (by rw [hdst]; exact ⟨RS.refl _ _, H⟩)
    · have h1 := H.2 j (ready_mono hj hji)
      obtain ⟨hjun, oj, hoj, hall⟩ := mem_ready.1 hj
      have hnot : ∀ e ∈ oj.after, Region.binds .any e = true → e.on ≠ i := fun e he hb heq => by
        have h1 := hall e he hb
        have h0 := (mem_ready.1 hr).1
        rw [heq] at h1
        rcases Nat.lt_or_ge i listed.size with h' | h'
        · simp [h'] at h0 h1; rw [h0] at h1; cases h1
        · simp [Array.getElem?_eq_none h'] at h1
      have hap := hfree j oj hoj hji hjun hnot
      have hx : ∀ l ws ps, (i, l, ws, ps) ∈ al → j ∉ ws ∧ j ∉ ps := fun l ws ps hm => by
        have hok := List.all_eq_true.1 hal _ hm
        simp only [Bool.and_eq_true] at hok
        refine ⟨fun hw => not_listed (mem_ready.1 hr).1 (ws_listed hcl ws [] hok.1 (fun k hk => by cases hk) j hw (fun o ho e he hb => ?_)), fun hp => not_listed hjun (ps_listed hcl (fun o ho e he hb => ?_) ps [] hok.2 (fun k hk => by cases hk) j hp)⟩
        · obtain rfl : o = oj := by rw [hoj] at ho; exact (Option.some.inj ho).symm
          exact hall e he hb
        · obtain ⟨_, o', ho', hall'⟩ := mem_ready.1 hr
          obtain rfl : o = o' := by rw [ho] at ho'; exact Option.some.inj ho'
          exact hall' e he hb
      have h2 := wpOp_putR3 hi hoj hap (fun cs b => hsel i oi cs b hi) (fun cs b => hsel j oj cs b hoj) hQ (fun w w' h => RS_adr3 hoj hnot hx h) hy h1
      have hfree' : ∀ k ok, ops[k]? = some ok → k ≠ i → (listed.setIfInBounds j true).getD k true = false →
          (∀ e ∈ ok.after, Region.binds .any e = true → e.on ≠ i) → oi.apart ops ok = true := fun k ok hk hki hun hno => by
        refine hfree k ok hk hki ?_ hno
        by_cases hjk : j = k
        · subst hjk; exact hjun
        · rw [getD_set_ne true hjk] at hun; exact hun
      refine wpOp_mono (fun a' w' h3 => ⟨h3.1, ih (listed.setIfInBounds j true) a' w' hfree' (hcl.set hj) (ready_mono hr (Ne.symm hji)) h3.2.1 ?_⟩) h2
      rw [Array.setIfInBounds_comm _ _ hji]
      exact h3.2.2
theorem wpAnyR_vals3 (hal : alOk ops al = true) (hsel : Region.noSelect ops = true) (hQ : ∀ c a w d v, Q (.panic c) (a.put d v) w → Q (.panic c) a w) {K0 : Act → World → Prop} {m : Nat} :
    ∀ (l : List Nat) (listed : Array Bool) (a : Act) (w : World), Closed ops listed → canonVals ops l listed = true → (∀ a w, Closed ops (setAll listed l) → K0 a w → wpAnyR3 P ops al Q m (setAll listed l) a w) →
      valsR3 P ops al K0 l a w → wpAnyR3 P ops al Q (l.length + m) listed a w
  | [], listed, a, w, hcl, _, k, h => by simpa [setAll] using k a w hcl h
  | i :: l, listed, a, w, hcl, hc, k, h => by
    simp only [canonVals, Bool.and_eq_true] at hc
    obtain ⟨⟨hr, hf⟩, hc⟩ := hc
    obtain ⟨v, hy, h⟩ := h
    obtain ⟨oi, hi, hy'⟩ := hy
    have hdst : dstOf ops i = oi.dst := by simp [dstOf, hi]
    have hri : i ∈ Region.ready .any ops listed := by simpa using hr
    have ih := wpAnyR_vals3 hal hsel hQ l (listed.setIfInBounds i true) _ w (hcl.set hri) hc k (hdst ▸ h)
    rw [List.length_cons, show l.length + 1 + m = (l.length + m) + 1 from by omega]
    exact wpAnyR_first3 hal hi (Region.noSelect_spec hsel) hQ (l.length + m) listed a w (fun j oj hj hne hun hno => Region.free_spec hi hf j oj hj hne hun hno) hcl hri ⟨oi, hi, hy'⟩ ih
theorem wpAnyR_more3 : ∀ (fuel : Nat) (listed : Array Bool) (a : Act) (w : World) (m : Nat), fuel ≤ m → wpAnyR3 P ops al Q fuel listed a w → wpAnyR3 P ops al Q m listed a w := by
  intro fuel
  induction fuel with
  | zero =>
    intro listed a w m _ h
    cases m with
    | zero => exact h
    | succ m => exact ⟨fun _ => h.2, fun i hi => by rw [h.1] at hi; cases hi⟩
  | succ fuel ih =>
    intro listed a w m hm h
    obtain ⟨m, rfl⟩ : ∃ k, m = k + 1 := ⟨m - 1, by omega⟩
    exact ⟨h.1, fun i hi => wpOp_mono (fun a' w' hh => ⟨hh.1, ih _ a' w' m (by omega) hh.2⟩) (h.2 i hi)⟩
theorem wpAnyR_of_O3 (hal : alOk ops al = true) (hsel : Region.noSelect ops = true) (hQ : ∀ c a w d v, Q (.panic c) (a.put d v) w → Q (.panic c) a w) :
    ∀ (o : Ord), (∀ (listed : Array Bool) (a : Act) (w : World), Closed ops listed → canonO ops true o listed = true → wpO3 P ops al Q o a w → wpAnyR3 P ops al Q o.depth listed a w) ∧
      (∀ (listed : Array Bool) (a : Act) (w : World) (top : Bool) (fuel : Nat), Closed ops listed → (∀ j ∈ o.ids, j ∈ Region.ready .any ops listed) → o.depth ≤ fuel + 1 → canonO ops top o listed = true → wpO3 P ops al Q o a w →
        ∀ i ∈ o.ids, wpOp P ops Q i (fun a' w' => RS (Sof3 ops al i) w w' ∧ wpAnyR3 P ops al Q fuel (listed.setIfInBounds i true) a' w') a w) := by
  intro o
  induction o with
  | fin =>
    refine ⟨fun listed a w hcl hc h => ?_, fun listed a w top fuel _ _ _ hc h i hi => by simp [Ord.ids] at hi⟩
    simp only [canonO, Bool.and_eq_true, List.isEmpty_iff] at hc
    exact ⟨hc.2, h⟩
  | vals l r ih =>
    refine ⟨fun listed a w hcl hc h => ?_, fun listed a w top fuel _ _ _ hc h i hi => by simp [Ord.ids] at hi⟩
    simp only [canonO, Bool.and_eq_true] at hc
    exact wpAnyR_vals3 hal hsel hQ l listed a w hcl hc.1.2 (fun a w hcl hk => ih.1 _ a w hcl hc.2 hk) h
  | alt i k r more ihr ihm =>
    have chain : ∀ (listed : Array Bool) (a : Act) (w : World) (top : Bool) (fuel : Nat), Closed ops listed → (∀ j ∈ (Ord.alt i k r more).ids, j ∈ Region.ready .any ops listed) → (Ord.alt i k r more).depth ≤ fuel + 1 → canonO ops top (.alt i k r more) listed = true → wpO3 P ops al Q (.alt i k r more) a w →
        ∀ j ∈ (Ord.alt i k r more).ids, wpOp P ops Q j (fun a' w' => RS (Sof3 ops al j) w w' ∧ wpAnyR3 P ops al Q fuel (listed.setIfInBounds j true) a' w') a w := by
      intro listed a w top fuel hcl hrd hd hc h j hj
      simp only [canonO, Bool.and_eq_true] at hc
      simp only [Ord.depth] at hd
      simp only [Ord.ids, List.mem_cons] at hj
      rcases hj with rfl | hj
      · exact wpOp_mono (fun a' w' hh => ⟨hh.1, wpAnyR_more3 _ _ _ _ fuel (by omega) (ihr.1 _ a' w' (hcl.set (hrd _ (List.mem_cons_self ..))) hc.1.2 hh.2)⟩) h.1
      · exact ihm.2 listed a w false fuel hcl (fun j hj => hrd j (List.mem_cons_of_mem _ hj)) (by omega) hc.2 h.2 j hj
    refine ⟨fun listed a w hcl hc h => ?_, chain⟩
    have hc' := hc
    simp only [canonO, Bool.and_eq_true, Bool.not_true, Bool.false_or, beq_iff_eq] at hc'
    have hready := hc'.1.1
    obtain ⟨f, hf⟩ : ∃ f, (Ord.alt i k r more).depth = f + 1 := ⟨(Ord.alt i k r more).depth - 1, by simp only [Ord.depth]; omega⟩
    rw [hf]
    refine ⟨fun hn => by rw [hready] at hn; simp [Ord.ids] at hn, fun j hj => ?_⟩
    rw [hready] at hj
    exact chain listed a w true f hcl (fun j hj => by rw [hready]; exact hj) (by omega) hc h j hj
  | nomore => exact ⟨fun listed a w hcl hc h => by simp [canonO] at hc, fun listed a w top fuel _ _ _ hc h i hi => by simp [Ord.ids] at hi⟩
theorem wp_region_orders3P {id : Nat} {a : Act} {w : World} (hm : P.follows .mixedOrders = true) (hQ : ∀ c a w d v, Q (.panic c) (a.put d v) w → Q (.panic c) a w) (al : List Al) (o : Ord) (hal : alOk ops al = true) (hc : canonAllO ops o = true)
    (h : wpO3 P ops al Q o a w.drew) : (Code.region id ops true).wp P Q a w := by
  simp only [canonAllO, Bool.and_eq_true] at hc
  obtain ⟨⟨hs, hc⟩, hd⟩ := hc
  exact wp_region_any hm (wpAny_of_R3 _ _ a _ (wpAnyR_more3 _ _ _ _ _ (by simpa using hd) ((wpAnyR_of_O3 hal hs hQ o).1 _ a _ (fun j oj hj hl => absurd hl (by simp [Array.getElem?_replicate]; split <;> simp)) hc h)))
theorem wp_region_orders3 {id : Nat} {a : Act} {w : World} (hm : P.follows .mixedOrders = true) (al : List Al) (o : Ord) (hal : alOk ops al = true) (hc : canonAllO ops o = true)
    (h : wpO3 P ops al (NoPanic Q) o a w.drew) : (Code.region id ops true).wp P Q a w := wp_region_noPanic (wp_region_orders3P hm (fun _ _ _ _ _ h => h) al o hal hc h)
end
section
variable {P : Program} {n : Nat} {ops : Array Oper} {al : List Al} {Q : Exit → Act → World → Prop} [Dfs]
def GO3 (P : Program) (n : Nat) (ops : Array Oper) (al : List Al) (Q : Exit → Act → World → Prop) (o : Ord) (e : Env) (w : World) : Prop := ∀ a, Frm n a e → wpO3 P ops al Q o a w
theorem go_fin3 {e : Env} {w : World} (h : ∀ a, Frm n a e → Q .normal a w) : GO3 P n ops al Q .fin e w := h
theorem go_vals3 {r : Ord} : ∀ (is : List Nat) {ans : List Ans} {e : Env} {vs : Env} {l : List Did} {w : World}, batch P n ops is e ans = some (vs ++ e, l) → Loads l w → (∀ i ∈ is, ∀ a ∈ didAddrs l, a ∈ adr3 al i) →
    GO3 P n ops al Q r (vs ++ e) w → GO3 P n ops al Q (.vals is r) e w := by
  have key : ∀ (is : List Nat) {ans : List Ans} {e e' : Env} {l : List Did} {w : World}, batch P n ops is e ans = some (e', l) → Loads l w → (∀ i ∈ is, ∀ a ∈ didAddrs l, a ∈ adr3 al i) →
      (∀ a, Frm n a e' → wpO3 P ops al Q r a w) → ∀ a, Frm n a e → valsR3 P ops al (wpO3 P ops al Q r) is a w := by
    intro is
    induction is with
    | nil =>
      intro ans e e' l w h hl hs k
      cases ans with
      | nil => simp only [batch, Option.some.injEq, Prod.mk.injEq] at h; obtain ⟨rfl, rfl⟩ := h; exact k
      | cons x s => simp [batch] at h
    | cons i is ih =>
      intro ans e e' l w h hl hs k
      simp only [batch] at h
      split at h
      · rename_i e1 l1 s1 hst
        split at h
        · rename_i e2 l2 hb
          simp only [Option.some.injEq, Prod.mk.injEq] at h
          obtain ⟨rfl, rfl⟩ := h
          obtain ⟨hl1, hl2⟩ := hl.append
          have happ : ∀ (x y : List Did), didAddrs (x ++ y) = didAddrs x ++ didAddrs y := by
            intro x y
            induction x with
            | nil => rfl
            | cons z x ihx => cases z <;> simp [didAddrs, ihx]
          rw [happ] at hs
          intro a hF
          -- the step
          unfold step0 at hst
          cases ho : ops[i]? with
          | none => rw [ho] at hst; cases hst
          | some o =>
            rw [ho] at hst
            simp only [] at hst
            cases hd : o.dst with
            | none => rw [hd] at hst; cases hst
            | some d =>
              rw [hd] at hst
              simp only [] at hst
              cases hb' : Nat.blt d n with
              | false => rw [hb'] at hst; cases hst
              | true =>
                rw [hb'] at hst
                simp only [] at hst
                have hdst : dstOf ops i = some d := by simp [dstOf, ho, hd]
                cases hw : wantE ops e o with
                | none => rw [hw] at hst; cases hst
                | some b =>
                  cases b with
                  | false =>
                    rw [hw] at hst
                    simp only [Option.some.injEq, Prod.mk.injEq] at hst
                    obtain ⟨rfl, rfl, rfl⟩ := hst
                    refine ⟨undef, ⟨o, ho, .inr ⟨wantE_sound hF hw, rfl⟩⟩, ?_⟩
                    exact ih hb hl2 (fun j hj x hx => hs j (List.mem_cons_of_mem _ hj) x (List.mem_append_right _ hx)) k _ (by rw [hdst]; exact hF.put hb' _)
                  | true =>
                    rw [hw] at hst
                    simp only [] at hst
                    split at hst
                    · rename_i d' v l' s' hs1
                      simp only [Option.some.injEq, Prod.mk.injEq] at hst
                      obtain ⟨rfl, rfl, rfl⟩ := hst
                      obtain ⟨o', ho', hd', _, hr⟩ := step1_sound hs1
                      obtain rfl : o' = o := by rw [ho] at ho'; exact (Option.some.inj ho').symm
                      obtain ⟨hw', hrun⟩ := hr a hF
                      refine ⟨v, ⟨o', ho, .inl ⟨hw', fun w' hx => hrun w' w' (hl1.rs (fun x hx => hs i (List.mem_cons_self ..) x (List.mem_append_left _ hx)) hx).goes⟩⟩, ?_⟩
                      exact ih hb hl2 (fun j hj x hx => hs j (List.mem_cons_of_mem _ hj) x (List.mem_append_right _ hx)) k _ (by rw [hdst]; exact hF.put hb' _)
                    · cases hst
        · cases h
      · cases h
  intro is ans e vs l w h hl hs k
  exact key is h hl hs k
theorem go_alt3 {i k : Nat} {r more : Ord} {e : Env} {w : World} (h : ∀ K : Act → World → Prop, (∀ e w', RS (Sof3 ops al i) w w' → GO3 P n ops al Q r e w' → KE n K e w') → GE P n ops (Exit.then K Q) [(i, 2)] e w) (m : GO3 P n ops al Q more e w) : GO3 P n ops al Q (.alt i k r more) e w := by
  intro a hF
  refine ⟨?_, m a hF⟩
  exact h (fun a w' => RS (Sof3 ops al i) w w' ∧ wpO3 P ops al Q r a w') (fun e w' hr hg a hF => ⟨hr, hg a hF⟩) a hF
theorem go_nomore3 {e : Env} {w : World} : GO3 P n ops al Q .nomore e w := fun _ _ => trivial
theorem we_orders3 {id : Nat} {ops : Array Oper} {e : Env} {w : World} (hm : P.follows .mixedOrders = true) (al : List Al) (o : Ord) (hal : alOk ops al = true) (hc : canonAllO ops o = true) (h : GO3 P n ops al (NoPanic Q) o e w.drew) : WE P n (.region id ops true) Q e w :=
  fun a hF => wp_region_orders3 hm al o hal hc (h a hF)
end
theorem mem_one3 {al : List Al} {i : Nat} {l : List Did} (h : adr3 al i = didAddrs l) : ∀ j ∈ [i], ∀ a ∈ didAddrs l, a ∈ adr3 al j := by
  intro j hj a ha
  obtain rfl : j = i := by simpa using hj
  rw [h]; exact ha
theorem mem_nil3 {al : List Al} {is : List Nat} : ∀ j ∈ is, ∀ a ∈ didAddrs [], a ∈ adr3 al j := fun j hj a ha => by cases ha
section
variable {P : Program} {n : Nat} {ops : Array Oper} {al : List Al} {Q : Exit → Act → World → Prop} [Dfs]
theorem go3_pv {i d : Nat} {op : Op} {ty : TypeId} {v : Value} {e : Env} {r : Ord} {w : World} (h : opAt n ops e i = some (d, op, ty))
    (hv : ∀ o w', o.op = op → o.type = ty → (execOp e.evD o).run P w' = .ok (.value v) w') (k : GO3 P n ops al Q r ((d, v) :: e) w) : GO3 P n ops al Q (.vals [i] r) e w := by
  obtain ⟨o, ho, hd, hdn, hw, hp, hk, hop, hty⟩ := opAt_sound h
  intro a hF
  refine ⟨v, ⟨o, ho, .inl ⟨wantE_sound hF hw, fun w' hx => ?_⟩⟩, ?_⟩
  · rw [execOp_env hF hp hk]; exact hv o w' hop hty
  · have hdst : dstOf ops i = some d := by simp [dstOf, ho, hd]
    rw [hdst]; exact k _ (hF.put hdn _)
theorem go3_nest {r : Ord} : ∀ (l : List Nat) {e : Env} {w : World}, GO3 P n ops al Q (.vals l r) e w → GO3 P n ops al Q (nestV l r) e w := by
  intro l e w h a hF
  have key : ∀ (l : List Nat) (a : Act) (w : World), valsR3 P ops al (wpO3 P ops al Q r) l a w → wpO3 P ops al Q (nestV l r) a w := by
    intro l
    induction l with
    | nil => intro a w h; exact h
    | cons i l ih =>
      intro a w h
      obtain ⟨v, hy, h⟩ := h
      exact ⟨v, hy, ih _ _ h⟩
  exact key l a w (h a hF)
theorem go3_batch {r : Ord} (is : List Nat) {ans : List Ans} {e : Env} {vs : Env} {l : List Did} {w : World} (hb : batch P n ops is e ans = some (vs ++ e, l)) (hl : Loads l w) (hs : ∀ i ∈ is, ∀ a ∈ didAddrs l, a ∈ adr3 al i)
    (k : GO3 P n ops al Q r (vs ++ e) w) : GO3 P n ops al Q (nestV is r) e w := go3_nest is (go_vals3 is hb hl hs k)
/-- xs[i]'s address, xs a slice -/
theorem go3_index {i d t el sz m c : Nat} {x y : Operand} {ty : TypeId} {A : Option Addr} {k' : IntKind} {j : Int} {jn b0 o0 : Nat} {e : Env} {r0 : Ord} {w : World} (h : opAt n ops e i = some (d, .indexAddr t x y, ty))
    (hx : e.ev x = some (.slice A m c)) (hy : e.ev y = some (.int k' j)) (ht : P.underlying t = some (.slice el)) (hs : (P.info? el).map (·.size) = some sz) (hA : A = some ⟨b0, o0, none⟩) (hj : j = (jn : Int)) (hm : jn < m)
    (k : GO3 P n ops al Q r0 ((d, .pointer (some ⟨b0, o0 + jn * sz, none⟩)) :: e) w) : GO3 P n ops al Q (.vals [i] r0) e w := by
  refine go3_pv h (fun o w' hop hty => ?_) k
  subst hA
  subst hj
  obtain ⟨inf, hi, hsz⟩ := Option.map_eq_some_iff.1 hs
  have h1 : (Instr.indexAt t (.slice (some ⟨b0, o0, none⟩) m c) (.int k' (jn : Int))).run P w' = .ok (.pointer (some (Addr.add ⟨b0, o0, none⟩ (jn * sz)))) w' := by
    have hlt : (jn : Int) < (m : Int) := by omega
    have hu : (underlying t).run P w' = .ok (.slice el) w' := by simp [underlying, ht]
    have hz : (sizeOf el).run P w' = .ok sz w' := by simp [sizeOf, typeInfo, hi, hsz]
    simp [Instr.indexAt, asIntOf, hu, hz]
    intro hh; omega
  have h2 : Addr.add ⟨b0, o0, none⟩ (jn * sz) = ⟨b0, o0 + jn * sz, none⟩ := by
    unfold Addr.add; split <;> simp_all
  simp only [execOp, hop, Env.evD, hx, hy, Option.getD_some, Sem.run_bind, h1, h2, Result.andThen_ok, Sem.run_pure]
end
section
variable {P : Program} {n : Nat} {ops : Array Oper} {al : List Al} {Q : Exit → Act → World → Prop} [Dfs]
end
section
variable {P : Program} {n : Nat} {ops : Array Oper} {al : List Al} {Q : Exit → Act → World → Prop} [Dfs]
end
end Go.Proofs.Ytchcdadpahakfaa.GV
