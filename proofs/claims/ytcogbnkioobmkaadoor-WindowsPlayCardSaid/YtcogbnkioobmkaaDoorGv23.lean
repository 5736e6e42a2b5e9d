/- The walker's core, 23rd part: rows of rows that are owned. Written for this work. -/
import Derived.Test.YtcogbnkioobmkaaDoorGv22
namespace Go.Proofs.YtcogbnkioobmkaaDoor.GV
open Go Go.RowKit
set_option linter.unusedVariables false
set_option linter.unusedSimpArgs false
/-- a row of rows: its head, and the heads of its rows -/
structure Rows where
  A : Option Addr
  n : Nat
  c : Nat
  hs : List Hdr
def Rows.val (x : Rows) : Value := .slice x.A x.n x.c
def Rows.none : Rows := ⟨Option.none, 0, 0, []⟩
def Rows.put (x : Rows) (t : Nat) (A : Option Addr) (n c : Nat) : Rows := ⟨x.A, x.n, x.c, x.hs.set t ⟨A, n, c⟩⟩
/-- a plain fact beside what is owned -/
def Own.only (P : Prop) : Own := ⟨[], fun _ => P, fun _ _ _ h => h⟩
def Own.nest {α : Type} [Flat α] (x : Rows) (T e : Nat) (ls : List (List α)) : Own := Own.all (Own.only (x.hs.length = ls.length ∧ x.n = ls.length) :: Own.of x.val T x.hs :: famL e x.hs ls)
theorem St.only {w0 w : World} {L : List Own} {P : Prop} (h : St w0 w L) (p : P) : St w0 w (Own.only P :: L) := by
  refine ⟨h.below, fun r hr => ?_, fun r hr b hb => ?_, List.Pairwise.cons (fun s _ b hb => ?_) h.apart⟩
  · rcases List.mem_cons.1 hr with rfl | hr
    · exact p
    · exact h.holds r hr
  · rcases List.mem_cons.1 hr with rfl | hr
    · simp [Own.only] at hb
    · exact h.base r hr b hb
  · simp [Own.only] at hb
theorem St.nestOpen {α : Type} [Flat α] {w0 w : World} {L : List Own} {x : Rows} {T e : Nat} {ls : List (List α)} (h : St w0 w (Own.nest x T e ls :: L)) : (x.hs.length = ls.length ∧ x.n = ls.length) ∧ St w0 w (Own.of x.val T x.hs :: Own.fam e x.hs ls :: L) := by
  have h1 := St.spread (R := Own.only (x.hs.length = ls.length ∧ x.n = ls.length) :: Own.of x.val T x.hs :: famL e x.hs ls) h
  have hp : x.hs.length = ls.length ∧ x.n = ls.length := h1.holds (Own.only (x.hs.length = ls.length ∧ x.n = ls.length)) (List.mem_cons_self ..)
  refine ⟨hp, ?_⟩
  have h2 : St w0 w (Own.of x.val T x.hs :: (famL e x.hs ls ++ L)) := h1.tail
  have h3 : St w0 w (famL e x.hs ls ++ Own.of x.val T x.hs :: L) := h2.perm List.perm_middle.symm
  exact h3.gather.perm (List.Perm.swap _ _ _)
theorem St.nestMk {α : Type} [Flat α] {w0 w : World} {L : List Own} {x : Rows} {T e : Nat} {ls : List (List α)} (hp : x.hs.length = ls.length) (h : St w0 w (Own.of x.val T x.hs :: Own.fam e x.hs ls :: L)) : St w0 w (Own.nest x T e ls :: L) := by
  have hn : x.n = x.hs.length := h.lenAt 0 (A := x.A) (n := x.n) (c := x.c) (t := T) (l := x.hs) rfl
  have h3 : St w0 w (Own.fam e x.hs ls :: Own.of x.val T x.hs :: L) := h.perm (List.Perm.swap _ _ _)
  have h2 : St w0 w (Own.of x.val T x.hs :: (famL e x.hs ls ++ L)) := h3.spread.perm List.perm_middle
  exact St.gather (R := Own.only (x.hs.length = ls.length ∧ x.n = ls.length) :: Own.of x.val T x.hs :: famL e x.hs ls) (h2.only ⟨hp, hn.trans hp⟩)
/-- how it reads -/
structure NestR {α : Type} [Flat α] (w : World) (x : Rows) (ls : List (List α)) : Prop where
  rd : RdL w x.A x.hs
  nl : NestL w x.hs ls
  n : x.n = ls.length
  cap : ls.length ≤ x.c
theorem St.nestAt {α : Type} [Flat α] {w0 w : World} {L : List Own} (h : St w0 w L) (m : Nat) {x : Rows} {T e : Nat} {ls : List (List α)} (hm : L[m]? = some (Own.nest x T e ls)) : NestR w x ls := by
  obtain ⟨⟨p1, p2⟩, h1⟩ := (h.bring m hm).nestOpen
  have hc : x.hs.length ≤ x.c := h1.capAt 0 (A := x.A) (n := x.n) (c := x.c) (t := T) (l := x.hs) rfl
  exact ⟨h1.rdAt 0 (A := x.A) (n := x.n) (c := x.c) (t := T) (l := x.hs) rfl, h1.famAt 1 rfl p1, p2, by omega⟩
/-- make -/
theorem St.nestMake {α : Type} [Flat α] {w0 w : World} {L : List Own} {v : Value} {T e n : Nat} (h : St w0 w (Own.of v T (List.replicate n (⟨none, 0, 0⟩ : Hdr)) :: L)) : ∃ x : Rows, v = x.val ∧ St w0 w (Own.nest x T e (List.replicate n ([] : List α)) :: L) := by
  obtain ⟨A, c, rfl⟩ := h.open 0 rfl
  refine ⟨⟨A, _, c, List.replicate n ⟨none, 0, 0⟩⟩, rfl, St.nestMk (by simp) ?_⟩
  have h1 := (h.tail.famNone (α := α) e n)
  have h2 : St w0 w (Own.of (.slice A (List.replicate n (⟨none, 0, 0⟩ : Hdr)).length c) T (List.replicate n (⟨none, 0, 0⟩ : Hdr)) :: L) := h
  have key : ∀ k, St w0 w (Own.of (.slice A (List.replicate n (⟨none, 0, 0⟩ : Hdr)).length c) T (List.replicate n (⟨none, 0, 0⟩ : Hdr)) :: (famL (α := α) e (List.replicate k ⟨none, 0, 0⟩) (List.replicate k []) ++ L)) := by
    intro k
    induction k with
    | zero => exact h2
    | succ k ih =>
      have := (ih.nil (α := α) e).perm (List.Perm.swap _ _ _)
      simpa only [List.replicate_succ, famL, List.zipWith_cons_cons, List.cons_append, Hdr.val] using this
  have h3 := ((key n).perm List.perm_middle.symm).gather
  exact h3.perm (List.Perm.swap _ _ _)
section
variable {P : Program} {n : Nat} {ops : Array Oper} {Q : Exit → Act → World → Prop}
/-- a row that is owned, stored into a row of rows -/
theorem ge_nestSet {α : Type} [Flat α] {i m jn c T t : Nat} {A : Option Addr} {x : Rows} {l y : List α} {ls : List (List α)} {l' : List Did} {e : Env} {rest : List (Nat × Nat)} {w0 w : World} {L : List Own} (hS : St w0 w (Own.of (.slice A l.length c) t l :: Own.nest x T t ls :: L))
    (hs : step1 P n ops e i [] = some (none, .skip, l', [])) (hl' : l' = didStores (blkOf x.A) (offOf x.A + (jn * 1 + 0)) [.slice A l.length c]) (hx : ls[jn]? = some y)
    (k : ∀ w1, St w0 w1 (Own.nest (x.put jn A l.length c) T t (ls.set jn l) :: L) → GE P n ops Q rest e w1) : GE P n ops Q ((i, m + 2) :: rest) e w := by
  have h1 : St w0 w (Own.nest x T t ls :: Own.of (.slice A l.length c) t l :: L) := hS.perm (List.Perm.swap _ _ _)
  obtain ⟨⟨p1, p2⟩, h2⟩ := h1.nestOpen
  have hj : jn < ls.length := lt_of_get hx
  have hy : x.hs[jn]? = some (x.hs[jn]'(by omega)) := List.getElem?_eq_getElem _
  refine ge_seti (α := Hdr) (A := x.A) (nn := x.n) (c := x.c) (t := T) (l := x.hs) (x' := ⟨A, l.length, c⟩) (jn := jn) (j := 0) (vs := [.slice A l.length c]) (l' := l') h2 hs hl' hy (by rfl) rfl rfl fun w1 h3 => k w1 ?_
  have h4 : St w0 w1 (Own.of (.slice A l.length c) t l :: Own.fam t x.hs ls :: Own.of (x.put jn A l.length c).val T (x.put jn A l.length c).hs :: L) := by
    refine h3.perm ?_
    exact (List.Perm.cons _ (List.Perm.swap _ _ _)).trans ((List.Perm.swap _ _ _).trans (List.Perm.cons _ (List.Perm.swap _ _ _)))
  have h5 := (h4.famSet p1 hj).perm (List.Perm.swap _ _ _)
  exact St.nestMk (x := x.put jn A l.length c) (by simp [Rows.put, p1]) h5
end
theorem Rows.put_at {x : Rows} {t : Nat} {A : Option Addr} {n c : Nat} {k : Nat} (h : x.hs.length = k) (ht : t < k) : (x.put t A n c).hs[t]? = some ⟨A, n, c⟩ := by
  simp [Rows.put, List.getElem?_set, h, ht]
theorem set_at {α : Type} {ls : List α} {t : Nat} {l y : α} (h : ls[t]? = some y) : (ls.set t l)[t]? = some l := by
  have := lt_of_get h
  simp [List.getElem?_set, this]
theorem ownb {α : Type} [Flat α] {A : Option Addr} {n m c e b : Nat} {l r : List α} (h : b ∈ (Own.of (.slice A n c) e l).foot) : b ∈ (Own.of (.slice A m c) e r).foot := by
  cases A <;> exact h
/-- the head of a row, of fewer -/
theorem St.shrink {α : Type} [Flat α] {w0 w : World} {L : List Own} {A : Option Addr} {c e : Nat} {l : List α} (h : St w0 w (Own.of (.slice A l.length c) e l :: L)) (k : Nat) : St w0 w (Own.of (.slice A (l.take k).length c) e (l.take k) :: L) := by
  have h0 := h.holds _ (List.mem_cons_self ..)
  refine ⟨h.below, fun r hr => ?_, fun r hr b hb => ?_, List.Pairwise.cons (fun s hs b hb => ?_) (List.pairwise_cons.1 h.apart).2⟩
  · rcases List.mem_cons.1 hr with rfl | hr
    · obtain ⟨⟨q1, q2⟩, h2 | ⟨g, cap, cur, hv, hg, hn, hc, hsz, ht⟩⟩ := h0
      · have : l = [] := List.eq_nil_of_length_eq_zero h2.2
        subst this
        exact ⟨⟨by simp [cellsOf], by simp⟩, .inl ⟨by simpa using h2.1, by simp⟩⟩
      · injection hv with hA hl hcc
        subst hA; subst hcc
        refine ⟨⟨by rw [cellsOf_length], by simp only [List.length_take]; omega⟩, .inr ⟨g, c, cur, rfl, hg, by simp only [List.length_take]; omega, hc, hsz, ?_⟩⟩
        apply List.ext_getElem?
        intro q
        have hp := Flat.pos (α := α)
        have hle : (l.take k).length * Flat.sz α ≤ l.length * Flat.sz α := Nat.mul_le_mul_right _ (by simp only [List.length_take]; omega)
        by_cases hq : q < (l.take k).length * Flat.sz α
        · have e1 : (cur.toList.take ((l.take k).length * Flat.sz α))[q]? = (cur.toList.take (l.length * Flat.sz α))[q]? := by
            rw [List.getElem?_take, List.getElem?_take, if_pos hq, if_pos (by omega)]
          rw [e1, ht]
          have hq0 : q = (q / Flat.sz α) * Flat.sz α + q % Flat.sz α := by rw [Nat.mul_comm]; exact (Nat.div_add_mod q _).symm
          have hmod := Nat.mod_lt q hp
          have hd : q / Flat.sz α < (l.take k).length := (Nat.div_lt_iff_lt_mul hp).2 hq
          have hk' : q / Flat.sz α < k ∧ q / Flat.sz α < l.length := by simp only [List.length_take] at hd; omega
          have hx : l[q / Flat.sz α]? = some (l[q / Flat.sz α]'hk'.2) := List.getElem?_eq_getElem _
          have hx2 : (l.take k)[q / Flat.sz α]? = some (l[q / Flat.sz α]'hk'.2) := by rw [List.getElem?_take, if_pos hk'.1, hx]
          have g1 := cellsOf_get l _ _ _ hx hmod
          have g2 := cellsOf_get (l.take k) _ _ _ hx2 hmod
          rw [← hq0] at g1 g2
          rw [g1, g2]
        · rw [List.getElem?_take, if_neg hq, List.getElem?_eq_none (by rw [cellsOf_length]; omega)]
    · exact h.holds r (List.mem_cons_of_mem _ hr)
  · rcases List.mem_cons.1 hr with rfl | hr
    · exact h.base (Own.of (.slice A l.length c) e l) (List.mem_cons_self ..) b (ownb hb)
    · exact h.base r (List.mem_cons_of_mem _ hr) b hb
  · exact (List.pairwise_cons.1 h.apart).1 s hs b (ownb hb)
end Go.Proofs.YtcogbnkioobmkaaDoor.GV
