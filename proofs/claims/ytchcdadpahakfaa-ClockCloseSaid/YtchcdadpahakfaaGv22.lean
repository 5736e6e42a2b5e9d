/- The walker's core, 22nd part: rows of rows as arguments of a row. Written for this work. -/
import Derived.Test.YtchcdadpahakfaaGv21
namespace Go.Proofs.Ytchcdadpahakfaa.GV
open Go Go.RowKit Go.ChangeShapes Go.WideShapes
set_option linter.unusedVariables false
set_option linter.unusedSimpArgs false
section
variable {H : Type} {enc : TypeId × Value → H} {P : Program} {w : World} {base : Nat} {spare : Nat → Bool} {held : Bool}
theorem weightsAll_mem {e : TypeId} {d : DataW H} : ∀ {l : List (DataW H)}, d ∈ l → ∀ n ∈ d.weights P e, n ∈ DataW.weightsAll P e l
  | x :: r, h, n, hn => by
    simp only [DataW.weightsAll, List.mem_append]
    rcases List.mem_cons.1 h with rfl | h
    · exact .inl hn
    · exact .inr (weightsAll_mem h n hn)
/-- a slice of plain data, opened, cell by cell -/
theorem gate_cells {α : Type} [Flat α] [Ok α] {t e : TypeId} {cs : List Value} {fuel : Nat} {x : DataW H × List MemPlace} (ht : P.underlying t = some (.slice e)) (ks : List CK) (hk : flatK P 8 e = some ks) (hof : ∀ cs, fitsAll2 ks cs → ∃ y : α, cs = Flat.cells y ∧ Ok.ok y) (hc : P.cellsOf e = Flat.sz α) (hby : Nat.blt 0 (P.bytesOf e) = true)
    (h : DataW.trod enc P w base spare held fuel t cs = some x) (hwt : ∀ n ∈ x.1.weights P t, n ≤ reachBytes) : ∃ (l : List α) (A : Option Addr) (c : Nat), cs = [.slice A l.length c] ∧ RdL w A l ∧ l.length ≤ c ∧ ∀ y ∈ l, Ok.ok y := by
  rcases Go.Deep.open_slice ht h with ⟨rfl, _⟩ | ⟨a, n0, c0, m, n, D, Pl, rfl, _, hlc, _, hm, hx, hel⟩
  · exact ⟨[], none, 0, rfl, RdL.nil w, Nat.zero_le _, by simp⟩
  · have hv : ∃ (a' : Option Addr) (n' c' : Nat), (Value.slice (some a) n0 c0) = .slice a' n' c' := ⟨some a, n0, c0, rfl⟩
    have hT : DataW.Trod enc P w base spare held t (.slice (some a) n0 c0) x.1 x.2 := ⟨fuel, h⟩
    obtain ⟨l, A, c, hv, hR, hl, hok⟩ := gate_row2 (α := α) ht ks hk hof hc hby hT hwt hv
    exact ⟨l, A, c, by rw [hv], hR, hl, hok⟩
/-- a slice of slices of plain data, opened -/
theorem gate_nest {α : Type} [Flat α] [Ok α] {t e e2 : TypeId} {v : Value} {d : DataW H} {ps : List MemPlace} (ht : P.underlying t = some (.slice e)) (he : P.underlying e = some (.slice e2)) (ks : List CK) (hk : flatK P 8 e2 = some ks) (hof : ∀ cs, fitsAll2 ks cs → ∃ y : α, cs = Flat.cells y ∧ Ok.ok y) (hc : P.cellsOf e2 = Flat.sz α) (hby : Nat.blt 0 (P.bytesOf e2) = true) (hce : P.cellsOf e = 1) (hbe : Nat.blt 0 (P.bytesOf e) = true)
    (h : DataW.Trod enc P w base spare held t v d ps) (hwt : ∀ n ∈ d.weights P t, n ≤ reachBytes) (hv : ∃ a n c, v = .slice a n c) : ∃ (ls : List (List α)) (hs : List Hdr) (A : Option Addr) (c : Nat), v = .slice A ls.length c ∧ RdL w A hs ∧ ls.length ≤ c ∧ NestL w hs ls ∧ ∀ l ∈ ls, ∀ y ∈ l, Ok.ok y := by
  obtain ⟨a0, n0, c0, rfl⟩ := hv
  obtain ⟨fuel, h⟩ := h
  rcases Go.Deep.open_slice ht h with ⟨hcs, _⟩ | ⟨a, len, cap, m, n, D, Pl, hcs, _, hlc, _, hm, hx, hel⟩
  · have : (Value.slice a0 n0 c0).cells.toList = [.slice a0 n0 c0] := rfl
    rw [this] at hcs
    injection hcs with hcs _
    injection hcs with h1 h2 h3
    subst h1; subst h2; subst h3
    exact ⟨[], [], none, 0, rfl, RdL.nil w, Nat.zero_le _, ⟨rfl, fun i x l hx => by simp at hx⟩, by simp⟩
  · have : (Value.slice a0 n0 c0).cells.toList = [.slice a0 n0 c0] := rfl
    rw [this] at hcs
    injection hcs with hcs _
    injection hcs with h1 h2 h3
    subst h1; subst h2; subst h3
    have hlm : n0 ≤ m := by rw [hm]; split <;> omega
    have hd : d = .slice ((List.range n0).map D) ((List.range (m - n0)).map fun j => D (n0 + j)) := (Prod.mk.inj hx).1
    obtain ⟨q, hq, hp⟩ := exists_list (α := Hdr × List α) (p := fun i y => w.cells? base (a.add (i * P.cellsOf e)) (P.cellsOf e) = some (Flat.cells y.1) ∧ y.1.n = y.2.length ∧ RdL w y.1.A y.2 ∧ y.2.length ≤ y.1.c ∧ ∀ z ∈ y.2, Ok.ok z) n0 (fun i hi => by
      obtain ⟨cs', h1, h2⟩ := hel i (by omega)
      obtain ⟨l, A, c, rfl, hR, hl, hok⟩ := gate_cells (α := α) he ks hk hof hc hby h2 (fun n hn => hwt n (by
        rw [hd]
        simp only [DataW.weights, ht, List.mem_cons, List.mem_append]
        exact .inr (.inl (weightsAll_mem (d := D i) (List.mem_map.2 ⟨i, List.mem_range.2 hi, rfl⟩) n hn))))
      exact ⟨(⟨A, l.length, c⟩, l), h1, rfl, hR, hl, hok⟩)
    have hlen1 : (q.map (·.1)).length = (q.map (·.2)).length := by simp
    refine ⟨q.map (·.2), q.map (·.1), some a, c0, by simp [hq], ⟨?_, fun hpos => ?_, fun b o ha i j hi hj => ?_⟩, by simpa [hq] using hlc, ⟨hlen1, fun i x l hx hy => ?_⟩, fun l hl => ?_⟩
    · have hb : 0 < P.bytesOf e := by simpa [Nat.blt_eq] using hbe
      have h1 := hwt ((n0 + (m - n0)) * P.bytesOf e) (by rw [hd]; simp [DataW.weights, ht])
      have h2 := reachBytes_lt
      have h3 : n0 + (m - n0) ≤ (n0 + (m - n0)) * P.bytesOf e := Nat.le_mul_of_pos_right _ hb
      simp only [List.length_map, hq]
      omega
    · obtain ⟨b, o, sp⟩ := a
      have hpos' : 0 < q.length := by simpa using hpos
      have hx0 : q[0]? = some q[0] := List.getElem?_eq_getElem hpos'
      obtain ⟨_, hlen, hget⟩ := World.cells?_some (hp 0 _ hx0).1
      have h0 := hget 0 (by rw [hce]; exact Nat.one_pos)
      have hfl : 0 < (Flat.cells q[0].1).length := by rw [Flat.len]; exact Flat.pos
      rw [List.getElem?_eq_getElem hfl] at h0
      have hsp : sp = none := by
        have := World.cell?_spot h0
        simpa [Addr.add] using this
      subst hsp
      exact ⟨b, o, rfl⟩
    · injection ha with ha
      subst ha
      have hi' : i < q.length := by simpa using hi
      have hx0 : q[i]? = some q[i] := List.getElem?_eq_getElem hi'
      obtain ⟨_, hlen, hget⟩ := World.cells?_some (hp i _ hx0).1
      have h0 := hget j (by rw [hce]; exact hj)
      rw [hce, WideShapes.add_plain, WideShapes.add_plain] at h0
      have hj1 : Flat.sz Hdr = 1 := rfl
      rw [hj1]
      rw [h0]
      have hfl : j < (Flat.cells q[i].1).length := by rw [Flat.len]; exact hj
      simp [flatF, hi', hfl]
    · rw [List.getElem?_map] at hx hy
      obtain ⟨y, hy1, rfl⟩ := Option.map_eq_some_iff.1 hx
      obtain ⟨y2, hy2, rfl⟩ := Option.map_eq_some_iff.1 hy
      rw [hy1] at hy2
      obtain rfl := Option.some.inj hy2
      obtain ⟨_, g1, g2, g3, _⟩ := hp i y hy1
      exact ⟨g1, g2, g3⟩
    · obtain ⟨y, hy, rfl⟩ := List.mem_map.1 hl
      obtain ⟨i, hi⟩ := List.mem_iff_getElem?.1 hy
      exact (hp i y hi).2.2.2.2
end
end Go.Proofs.Ytchcdadpahakfaa.GV
