/- The walker's core, 43rd part: rows of rows whose rows are stored into, or appended to for nothing. Written for this work. -/
import Derived.Test.YtchcdadpahakfaaDoorGv24
namespace Go.Proofs.YtchcdadpahakfaaDoor.GV
open Go Go.RowKit
set_option linter.unusedVariables false
set_option linter.unusedSimpArgs false
theorem perm_erase {α : Type} : ∀ {l : List α} {i : Nat} (h : i < l.length), (l[i] :: l.eraseIdx i).Perm l
  | x :: l, 0, _ => List.Perm.refl _
  | x :: l, i + 1, h => by
    have h' : i < l.length := by simpa using h
    rw [List.eraseIdx_cons_succ, List.getElem_cons_succ]
    exact (List.Perm.swap _ _ _).trans ((perm_erase h').cons x)
/-- one row out of a row of rows, and back -/
theorem St.nestOut {α : Type} [Flat α] {w0 w : World} {L : List Own} {x : Rows} {T e i c : Nat} {A : Option Addr} {l : List α} {ls : List (List α)} (h : St w0 w (Own.nest x T e ls :: L)) (hx : ls[i]? = some l) (hh : x.hs[i]? = some ⟨A, l.length, c⟩) :
    ∃ R : List Own, St w0 w (Own.of (.slice A l.length c) e l :: (R ++ L)) ∧ ∀ (L' : List Own) (w1 : World) (l' : List α), l'.length = l.length → St w0 w1 (Own.of (.slice A l.length c) e l' :: (R ++ L')) → St w0 w1 (Own.nest x T e (ls.set i l') :: L') := by
  obtain ⟨⟨p1, p2⟩, h1⟩ := h.nestOpen
  have hi : i < ls.length := lt_of_get hx
  have hf := famL_get (e := e) hh hx
  have hlt : i < (famL e x.hs ls).length := lt_of_get hf
  have hfe : (famL e x.hs ls)[i] = Own.of (.slice A l.length c) e l := by
    rw [List.getElem?_eq_getElem hlt] at hf
    exact Option.some.inj hf
  refine ⟨Own.of x.val T x.hs :: (famL e x.hs ls).eraseIdx i, ?_, fun L' w1 l' hl' h2 => ?_⟩
  · have h2 : St w0 w (famL e x.hs ls ++ (Own.of x.val T x.hs :: L)) := (h1.perm (List.Perm.swap _ _ _)).spread
    refine h2.perm ?_
    have hp := perm_erase hlt
    rw [hfe] at hp
    refine (hp.symm.append_right _).trans ?_
    rw [List.cons_append]
    refine List.Perm.cons _ ?_
    rw [List.cons_append]
    exact List.perm_middle
  · have hset : x.hs.set i ⟨A, l.length, c⟩ = x.hs := by
      apply List.ext_getElem?
      intro q
      rw [List.getElem?_set]
      split
      · rename_i hq; subst hq; split
        · exact hh.symm
        · rename_i hn; exact absurd (lt_of_get hh) hn
      · rfl
    have hfs := famL_set e x.hs ls i ⟨A, l.length, c⟩ l'
    rw [hset] at hfs
    have hlt' : i < ((famL e x.hs ls).set i (Own.of (.slice A l.length c) e l')).length := by simpa using hlt
    have hp := perm_erase hlt'
    rw [List.getElem_set_self, List.eraseIdx_set_eq] at hp
    have h3 : St w0 w1 (Own.of x.val T x.hs :: Own.fam e x.hs (ls.set i l') :: L') := by
      have h4 : St w0 w1 (famL e x.hs (ls.set i l') ++ (Own.of x.val T x.hs :: L')) := by
        rw [hfs]
        refine h2.perm ?_
        refine List.Perm.trans ?_ (hp.append_right _)
        rw [List.cons_append]
        refine List.Perm.cons _ ?_
        exact List.perm_middle.symm
      exact h4.gather.perm (List.Perm.swap _ _ _)
    exact St.nestMk (by rw [List.length_set]; exact p1) h3
/-- two rows, and a row of their heads -/
theorem St.nestPair {α : Type} [Flat α] {w0 w : World} {L : List Own} {B A A' : Option Addr} {n d T e c c' : Nat} {l l' : List α} (h : St w0 w (Own.of (.slice B n d) T [(⟨A, l.length, c⟩ : Hdr), ⟨A', l'.length, c'⟩] :: Own.of (.slice A l.length c) e l :: Own.of (.slice A' l'.length c') e l' :: L)) :
    St w0 w (Own.nest ⟨B, n, d, [⟨A, l.length, c⟩, ⟨A', l'.length, c'⟩]⟩ T e [l, l'] :: L) := by
  have h1 : St w0 w (Own.of (.slice A l.length c) e l :: Own.of (.slice A' l'.length c') e l' :: Own.of (.slice B n d) T [(⟨A, l.length, c⟩ : Hdr), ⟨A', l'.length, c'⟩] :: L) := by
    refine h.perm ?_
    exact (List.Perm.swap _ _ _).trans ((List.Perm.swap _ _ _).cons _)
  have h2 := (h1.famNil (α := α) e).perm (List.Perm.swap _ _ _)
  have h3 := (h2.famAdd rfl).perm (List.Perm.swap _ _ _)
  have h4 := (h3.famAdd rfl).perm (List.Perm.swap _ _ _)
  exact St.nestMk rfl h4
section
variable {P : Program}
/-- an append whose answer is thrown away -/
theorem run_append_keep {w : World} (base : Nat) (t ty e : TypeId) (i : TypeInfo) (z : Value) (size bytes : Nat) (ht : P.underlying t = some (.slice e)) (hi : P.info? e = some i) (hz : i.zero = some z)
    (hsize : i.size = size) (hby : i.bytes = bytes) (hsz : 0 < size)
    (v : Value) (n : Nat) (xs : List Value) (hown : w.ownsRow base e size v n xs)
    (a : Addr) (m c : Nat) (news : List Value) (hl : news.length = m * size) (hnews : ∀ j u, news[j]? = some u → w.cell? (a.add j) = some u) (h1 : ∀ u ∈ news, u.oneCell' = true) (hm0 : 0 < m)
    (h63 : n + m ≤ maxLen) (hbytes : (n + m) * bytes ≤ 140737488355328) :
    ∃ v' w', (Builtin.append_ #[t, t] ty #[v, .slice (some a) m c]).run P w = .ok v' w' ∧ w'.ownsRow base e size v n xs ∧ w.grownBy w' v.ownBlock := by
  subst hsize
  subst hby
  have hsmall : n + m ≤ 9223372036854775807 := by simp only [maxLen] at h63; omega
  have grown : ∀ (o : Obj) (row : Option Nat), w.grownBy (w.drew.alloc o) row := fun o row => ⟨rfl, rfl, rfl, by simp, fun k hk _ => heap_alloc_old w.drew _ hk⟩
  rcases hown.2 with ⟨rfl, rfl⟩ | ⟨g, cap, cur, rfl, hbg, hg, hnc, hcm, hcs, htake⟩
  · have hx : xs = [] := List.eq_nil_of_length_eq_zero (by simpa using hown.1)
    subst hx
    have hr := run_append_nil (P := P) w t ty e i z ht hi hz a m c news hl hnews (by omega) (by omega) (by have hb := hbytes; simp only [Nat.zero_add] at hb; omega)
    exact ⟨_, _, hr, ⟨hown.1, .inl ⟨rfl, rfl⟩⟩, grown _ _⟩
  · by_cases hroom : n + m ≤ cap
    · have hfit : n * i.size + news.length ≤ cur.size := by rw [hl, hcs, ← Nat.add_mul]; exact Nat.mul_le_mul_right _ hroom
      have hr := run_append_room (P := P) w t ty e i ht hi g n cap cur hg a m c news hl hnews h1 hroom hfit
      refine ⟨_, _, hr, ⟨hown.1, .inr ⟨g, cap, _, rfl, hbg, setRow_heap w g cur _ e _ hg, hnc, hcm, ?_, ?_⟩⟩, ⟨rfl, rfl, rfl, by simp, fun k _ hk => setRow_other w g k _ (fun e => hk (by simp [Value.ownBlock, e]))⟩⟩
      · simp only [List.size_toArray, List.length_append, List.length_take, List.length_drop, Array.length_toList]
        omega
      · have hlx : xs.length = n * i.size := hown.1
        have h2 : n * i.size ≤ cur.size := by rw [hcs]; exact Nat.mul_le_mul_right _ hnc
        rw [htake]
        simp only [List.append_assoc]
        rw [← hlx]
        exact List.take_left
    · have holds : ∀ j u, xs[j]? = some u → w.cell? ((⟨g, 0, none⟩ : Addr).add j) = some u := hown.cells (g := g) rfl
      have hr := run_append_grow (P := P) w t ty e i z ht hi hz ⟨g, 0, none⟩ n cap xs hown.1 holds a m c news hl hnews (by omega) (by omega) (growslice_fits (by omega) hbytes)
      refine ⟨_, _, hr, ⟨hown.1, .inr ⟨g, cap, cur, rfl, hbg, ?_, hnc, hcm, hcs, htake⟩⟩, grown _ _⟩
      have hlt : g < w.heap.size := by
        rcases Nat.lt_or_ge g w.heap.size with h | h
        · exact h
        · rw [Array.getElem?_eq_none h] at hg; cases hg
      exact (heap_alloc_old w.drew _ hlt).trans hg
variable {n : Nat} {ops : Array Oper} {Q : Exit → Act → World → Prop} [Dfs]
theorem ge_appendKeep {α : Type} [Flat α] {i d m t el bytes c1 b1 : Nat} {x y : Operand} {ty : TypeId} {v z : Value} {l : List α} {u : α} {e : Env} {rest : List (Nat × Nat)} {w0 w : World} {L : List Own}
    (h : opAt n ops e i = some (d, .call { callee := .builtin .append, args := #[x, y], argTypes := #[t, t] }, ty)) (hx : e.ev x = some v) (hy : e.ev y = some (.slice (some ⟨b1, 0, none⟩) 1 c1))
    (ht : P.underlying t = some (.slice el)) (hi : (P.info? el).map (fun i => (i.zero, i.size, i.bytes)) = some (some z, Flat.sz α, bytes))
    (hS : St w0 w (Own.of v el l :: Own.blk b1 (.cells (Flat.cells u).toArray el (0, 0)) :: L)) (hle : l.length + 1 ≤ 140737488355328) (hlen : (l.length + 1) * bytes ≤ 140737488355328)
    (k : ∀ v' w1, St w0 w1 (Own.of v el l :: L) → GE P n ops Q rest ((d, v') :: e) w1) : GE P n ops Q ((i, m + 2) :: rest) e w := by
  obtain ⟨o, ho, hd, hdn, hw, hp, hk, hop, hty⟩ := opAt_sound h
  obtain ⟨inf, hinf, hzz⟩ := Option.map_eq_some_iff.1 hi
  simp only [Prod.mk.injEq] at hzz
  obtain ⟨hz0, hz1, hz2⟩ := hzz
  have hown := hS.holds _ (List.mem_cons_self ..)
  have hbs := hS.base _ (List.mem_cons_self ..)
  have hb1 : w.heap[b1]? = some (.cells (Flat.cells u).toArray el (0, 0)) := hS.holds (Own.blk b1 (.cells (Flat.cells u).toArray el (0, 0))) (by simp)
  have hrow : w.ownsRow w0.heap.size el (Flat.sz α) v l.length (cellsOf l) := by
    refine ⟨hown.1.1, ?_⟩
    rcases hown.2 with h1 | ⟨g, cap, cur, rfl, hg, hr⟩
    · exact .inl h1
    · exact .inr ⟨g, cap, cur, rfl, (hbs g (by simp [Own.row, Value.ownBlock])).1, hg, hr⟩
  obtain ⟨v', w', hrun, hrow', hg⟩ := run_append_keep (P := P) (w := w) w0.heap.size t ty el inf z (Flat.sz α) bytes ht hinf hz0 hz1 hz2 Flat.pos v l.length (cellsOf l) hrow ⟨b1, 0, none⟩ 1 c1 (Flat.cells u) (by rw [Flat.len, Nat.one_mul])
    (fun j q hq => by
      have : (⟨b1, 0, none⟩ : Addr).add j = ⟨b1, j, none⟩ := by unfold Addr.add; split <;> simp_all
      rw [this, cell_of_row w b1 j _ el (0, 0) hb1]
      simpa using hq)
    (fun q hq => by have := Flat.one u; exact List.all_eq_true.1 this q hq) (by decide) (by simp only [maxLen]; omega) hlen
  have hS' : St w0 w' (Own.of v el l :: L) := by
    refine St.upd (r := Own.of v el l) (hS.bring 1 rfl).tail hg.os hg.tape hg.output hg.size (fun kk hkk hne => hg.block kk hkk (fun e => hne (by simp [Own.row, ← e]))) ?_ (fun b hb => ⟨.inl hb, Nat.lt_of_lt_of_le (hbs b hb).2 hg.size⟩)
    refine ⟨hown.1, ?_⟩
    rcases hrow'.2 with h1 | ⟨g, cap, cur, hv', _, hgg, hr⟩
    · exact .inl h1
    · exact .inr ⟨g, cap, cur, hv', hgg, hr⟩
  intro a hF
  unfold wpG wpOp
  simp only [ho, wantE_sound hF hw, if_true]
  refine .inl ?_
  have hex : (execOp a.eval o).run P w = .ok (.value v') w' := by
    rw [execOp_env hF hp hk]
    unfold execOp
    simp only [hop, hty, resolve, invoke, builtin, Sem.run_bind, Sem.run_pure, Result.andThen_ok, List.map_toArray, List.map_cons, List.map_nil, Env.evD, hx, hy, Option.getD_some, hrun]
  unfold Oper.wp
  rw [hex]
  simp only [Oper.upon, hd]
  exact k v' w' hS' _ (hF.put hdn _)
/-- to a row within a row of rows -/
theorem ge_nestAppend {α : Type} [Flat α] {i d m t el bytes c1 b1 jn c T : Nat} {A : Option Addr} {x y : Operand} {ty : TypeId} {X : Rows} {z : Value} {l : List α} {ls : List (List α)} {u : α} {e : Env} {rest : List (Nat × Nat)} {w0 w : World} {L : List Own}
    (h : opAt n ops e i = some (d, .call { callee := .builtin .append, args := #[x, y], argTypes := #[t, t] }, ty)) (hx : e.ev x = some (.slice A l.length c)) (hy : e.ev y = some (.slice (some ⟨b1, 0, none⟩) 1 c1))
    (ht : P.underlying t = some (.slice el)) (hi : (P.info? el).map (fun i => (i.zero, i.size, i.bytes)) = some (some z, Flat.sz α, bytes))
    (hS : St w0 w (Own.nest X T el ls :: Own.blk b1 (.cells (Flat.cells u).toArray el (0, 0)) :: L)) (hl : ls[jn]? = some l) (hh : X.hs[jn]? = some ⟨A, l.length, c⟩) (hle : l.length + 1 ≤ 140737488355328) (hlen : (l.length + 1) * bytes ≤ 140737488355328)
    (k : ∀ v' w1, St w0 w1 (Own.nest X T el ls :: L) → GE P n ops Q rest ((d, v') :: e) w1) : GE P n ops Q ((i, m + 2) :: rest) e w := by
  obtain ⟨R, h1, h2⟩ := St.nestOut hS hl hh
  have h1' : St w0 w (Own.of (.slice A l.length c) el l :: Own.blk b1 (.cells (Flat.cells u).toArray el (0, 0)) :: (R ++ L)) := h1.perm (List.Perm.cons _ List.perm_middle)
  refine ge_appendKeep (α := α) (v := .slice A l.length c) (l := l) (u := u) h hx hy ht hi h1' hle hlen fun v' w1 h3 => k v' w1 ?_
  have h4 := h2 L w1 l rfl h3
  have : ls.set jn l = ls := by
    apply List.ext_getElem?
    intro q
    rw [List.getElem?_set]
    split
    · rename_i hq; subst hq; split
      · exact hl.symm
      · rename_i hn; exact absurd (lt_of_get hl) hn
    · rfl
  rw [this] at h4
  exact h4
/-- an entry of a row within a row of rows -/
theorem ge_nestCell {α : Type} [Flat α] {i m j jn kn c T e0 : Nat} {A : Option Addr} {X : Rows} {l : List α} {ls : List (List α)} {x x' : α} {vs : List Value} {l' : List Did} {e : Env} {rest : List (Nat × Nat)} {w0 w : World} {L : List Own} (hS : St w0 w (Own.nest X T e0 ls :: L)) (hl : ls[jn]? = some l) (hh : X.hs[jn]? = some ⟨A, l.length, c⟩)
    (hs : step1 P n ops e i [] = some (none, .skip, l', [])) (hl' : l' = didStores (blkOf A) (offOf A + (kn * Flat.sz α + j)) vs) (hx : l[kn]? = some x) (hj : Nat.ble (j + vs.length) (Flat.sz α) = true) (ho : oneCells vs = true) (hc : Flat.cells x' = setL (Flat.cells x) j vs)
    (k : ∀ w1, St w0 w1 (Own.nest X T e0 (ls.set jn (l.set kn x')) :: L) → GE P n ops Q rest e w1) : GE P n ops Q ((i, m + 2) :: rest) e w := by
  obtain ⟨R, h1, h2⟩ := St.nestOut hS hl hh
  exact ge_seti (α := α) (A := A) (nn := l.length) (c := c) (t := e0) (l := l) (x' := x') (jn := kn) (j := j) (vs := vs) (l' := l') h1 hs hl' hx hj ho hc fun w1 h3 => k w1 (h2 L w1 _ (by simp) h3)
/-- one row more behind a row of rows -/
theorem ge_nestAdd {i d m t bytes c1 b1 T e0 cc : Nat} {α : Type} [Flat α] {A : Option Addr} {x y : Operand} {ty : TypeId} {X : Rows} {l : List α} {ls : List (List α)} {e : Env} {rest : List (Nat × Nat)} {w0 w : World} {L : List Own}
    (h : opAt n ops e i = some (d, .call { callee := .builtin .append, args := #[x, y], argTypes := #[t, t] }, ty)) (hx : e.ev x = some X.val) (hy : e.ev y = some (.slice (some ⟨b1, 0, none⟩) 1 c1))
    (ht : P.underlying t = some (.slice T)) (hi : (P.info? T).map (fun i => (i.zero, i.size, i.bytes)) = some (some (.slice none 0 0), 1, bytes))
    (hS : St w0 w (Own.nest X T e0 ls :: Own.of (.slice A l.length cc) e0 l :: Own.blk b1 (.cells #[.slice A l.length cc] T (0, 0)) :: L)) (hb0 : Nat.blt 0 bytes = true) (hlen : (ls.length + 1) * bytes ≤ 140737488355328)
    (k : ∀ (Y : Rows) w1, St w0 w1 (Own.nest Y T e0 (ls ++ [l]) :: L) → GE P n ops Q rest ((d, Y.val) :: e) w1) : GE P n ops Q ((i, m + 2) :: rest) e w := by
  obtain ⟨⟨p1, p2⟩, h1⟩ := hS.nestOpen
  have h2 : St w0 w (Own.of X.val T X.hs :: Own.blk b1 (.cells (Flat.cells (⟨A, l.length, cc⟩ : Hdr)).toArray T (0, 0)) :: Own.fam e0 X.hs ls :: Own.of (.slice A l.length cc) e0 l :: L) := by
    refine h1.perm (List.Perm.cons _ ?_)
    exact ((List.Perm.swap _ _ _).cons _).trans (List.Perm.swap _ _ _)
  refine ge_append (α := Hdr) (v := X.val) (l := X.hs) (u := ⟨A, l.length, cc⟩) (z := .slice none 0 0) h hx hy ht hi (by rfl) h2 hb0 (by rw [p1]; exact hlen) fun v' w1 h3 => ?_
  obtain ⟨Y, rfl, h4⟩ := St.nestAdd p1 h3
  exact k Y w1 h4
end
end Go.Proofs.YtchcdadpahakfaaDoor.GV
