/- slices.Values, slices.Sorted and sort.Ints, said with what is owned. -/
import Derived.Test.YtchcdadpahakfaaGSortR
import Derived.Test.YtchcdadpahakfaaGv26
namespace Go.Proofs.Ytchcdadpahakfaa.GV
open Go Go.RowKit
set_option linter.unusedVariables false
set_option linter.unusedSimpArgs false
theorem values_ok (A : Option Addr) (n c : Nat) (w : World) : Calls Try.prog 47 #[.slice A n c] w fun e w' => ∃ b, e = .returned (.func (.func 64) #[] #[.pointer (some ⟨b, 0, none⟩)]) ∧ St w w' [Own.blk b (.cells #[.slice A n c] 26 (0, 0))] :=
  (R.values_calls A n c w).mono fun e w' ⟨h1, h2⟩ => ⟨w.heap.size, h1, by subst h2; exact (St.start w).alloc _⟩
theorem cellsOf_ints : ∀ l : List Int, cellsOf l = l.map (Value.int .i64)
  | [] => rfl
  | x :: r => by rw [List.map_cons, ← cellsOf_ints r]; rfl
theorem sorted_ok (b : Nat) (A : Option Addr) (c : Nat) (l : List Int) (w : World) (hb : w.cell? ⟨b, 0, none⟩ = some (.slice A l.length c)) (hR : RdL w A l) (hL : l.length ≤ c) (h0 : 1 ≤ l.length) (h1 : l.length ≤ 1000) :
    Calls Try.prog 46 #[.func (.func 64) #[] #[.pointer (some ⟨b, 0, none⟩)]] w fun e w' => ∃ v, e = .returned v ∧ St w w' [Own.of v 3 (l.mergeSort (fun x y => decide (x ≤ y)))] := by
  have hx0 : l[0]? = some l[0] := List.getElem?_eq_getElem (by omega)
  have hcell : ∀ j, j < l.length → w.cell? ⟨blkOf A, offOf A + j, none⟩ = some (.int .i64 (l[j]?.getD 0)) := fun j hj => by
    have hx : l[j]? = some l[j] := List.getElem?_eq_getElem hj
    have := hR.cell (j := 0) (v := .int .i64 l[j]) hx rfl
    have e : offOf A + j * Flat.sz Int + 0 = offOf A + j := by show offOf A + j * 1 + 0 = _; omega
    rw [e] at this
    rw [this, hx]; rfl
  have hA : A = some ⟨blkOf A, offOf A, none⟩ := hR.eqSome (pos_of_get hx0)
  have hlt : blkOf A < w.heap.size := World.block_lt_of_cell? w _ (hcell 0 (by omega))
  have hbl : b < w.heap.size := World.block_lt_of_cell? w _ hb
  refine (R.sorted_in b w.heap.size (.slice A l.length c) l (by omega) w hbl (Nat.le_refl _) hb (.inr ⟨blkOf A, offOf A, c, by rw [← hA], hlt, hcell⟩)).mono ?_
  rintro e w' ⟨v, rfl, hrow, hB⟩
  refine ⟨v, rfl, ⟨hB, fun r hr => ?_, fun r hr x hx => ?_, by simp⟩⟩
  · obtain rfl := List.mem_singleton.1 hr
    refine ⟨⟨by rw [cellsOf_length], by rw [List.length_mergeSort]; omega⟩, ?_⟩
    rcases hrow.2 with ⟨rfl, h⟩ | ⟨g, cap, cur, rfl, hbase, hg, r1, r2, r3, r4⟩
    · omega
    · refine .inr ⟨g, cap, cur, by rw [List.length_mergeSort], hg, by rw [List.length_mergeSort]; exact r1, r2, r3, ?_⟩
      rw [List.length_mergeSort, cellsOf_ints]; exact r4
  · obtain rfl := List.mem_singleton.1 hr
    have hx' : v.ownBlock = some x := by simpa [Own.row] using hx
    exact hrow.lt x hx'
/-- sort.Ints -/
theorem ints_in (n : Nat) (hn : 2 ≤ n) (A : Option Addr) (c : Nat) (l : List Int) (w : World) (R : World → Prop) (h : CallsIn Fence.wide (n - 1) Try.prog 63 #[.slice A l.length c] w fun e w' => e = .returned (.tuple #[]) ∧ R w') :
    CallsIn Fence.wide n Try.prog 48 #[.slice A l.length c] w fun e w' => e = .returned (.tuple #[]) ∧ R w' := by
  have h1 : 1 ≤ n := by omega
  have hf : Fence.wide.fn 63 := trivial
  refine callsIn_of_wp Try.func48 rfl trivial ?_ rfl
  simp only [Try.ntmps48, List.size_toArray, List.length_cons, List.length_nil, Nat.reduceAdd, Nat.reduceSub, Array.replicate_succ, Array.replicate_zero, List.push_toArray, List.append_toArray, List.nil_append, List.cons_append]
  gi_wp2_with (gi_at_call 63; refine h.mono ?_; rintro e w' ⟨rfl, hR⟩)
  go_end0
  exact ⟨rfl, hR⟩
theorem ints_ok {l : List Int} {A : Option Addr} {c : Nat} {w0 wE : World} {LT : List Own} (hS : St w0 wE [Own.of (.slice A l.length c) 3 l, Own.all LT]) :
    Calls Try.prog 48 #[.slice A l.length c] wE (fun e w => e = .returned (.tuple #[]) ∧ l.length = (l.mergeSort (fun x y => decide (x ≤ y))).length ∧ St w0 w [Own.of (.slice A (l.mergeSort (fun x y => decide (x ≤ y))).length c) 3 (l.mergeSort (fun x y => decide (x ≤ y))), Own.all LT]) := by
  have hlen : (l.mergeSort (fun x y => decide (x ≤ y))).length = l.length := List.length_mergeSort l
  have h0 := hS.holds _ (List.mem_cons_self ..)
  obtain ⟨⟨q1, q2⟩, h2 | ⟨g, cap, cur, hv, hg, hn, hc, hsz, ht⟩⟩ := h0
  · have hl : l = [] := List.eq_nil_of_length_eq_zero h2.2
    subst hl
    have hv := h2.1
    injection hv with hA hl2 hcc
    subst hA; subst hcc
    refine (callsIn_wide (n := 2)).1 ((ints_in 2 (by omega) none 0 [] wE (fun w' => w' = wE) (callsIn_wide.2 (AnyM.slices_Sort_int_none lay_sortM none 0 wE))).mono ?_)
    rintro e w' ⟨rfl, rfl⟩
    exact ⟨rfl, by simp, by simpa using hS⟩
  · injection hv with hA hl2 hcc
    subst hA; subst hcc
    have hlt := (hS.base _ (List.mem_cons_self ..) g (by simp [Own.row, Value.ownBlock])).2
    have hcur : cur.toList.take l.length = l.map encZ := by
      have e1 : l.length * Flat.sz Int = l.length := Nat.mul_one _
      rw [e1, cellsOf_ints] at ht; exact ht
    have hH : Go.Sort.Holds (Value.int .i64) wE g 0 l.toArray := holds_of_block_i hg hcur
    have cS := AnyM.slices_Sort_int lay_sortM g 0 c l wE hH hlt (by omega)
    refine (callsIn_wide (n := 2)).1 ((ints_in 2 (by omega) (some ⟨g, 0, none⟩) c l wE _ (callsIn_wide.2 cS)).mono ?_)
    rintro e w' ⟨rfl, m, os, rfl⟩
    refine ⟨rfl, hlen.symm, ?_⟩
    have hsz' : cur.size = c * 1 := hsz
    have hrow := ownsRow_sorted_i (w := wE) (base := 0) (g := g) (cap := c) (n := m) (e := 3) (os := os) (cur := cur) (ss := l) (ts := l.mergeSort (fun x y => decide (x ≤ y))) hlen (Nat.zero_le _) hg hn hc hsz'
    have hgr := grownBy_sorted_i (w := wE) (g := g) (n := m) (os := os) (l.mergeSort (fun x y => decide (x ≤ y))).toArray
    refine hS.upd hgr.os hgr.tape hgr.output hgr.size (fun k hk hne => hgr.block k hk (fun e => hne (by simp [Own.row, Value.ownBlock]; cases e; rfl))) ?_ (fun x hx => ?_)
    · rcases hrow.2 with ⟨h, _⟩ | ⟨g', cap', cur', hv', _, hg', r1, r2, r3, r4⟩
      · cases h
      · injection hv' with hA' hl' hc'
        injection hA' with hA'
        injection hA' with hA'
        subst hA'; subst hc'
        refine ⟨⟨by rw [cellsOf_length], by omega⟩, .inr ⟨g, c, cur', rfl, hg', by omega, r2, r3, ?_⟩⟩
        rw [hlen, cellsOf_ints]; exact r4
    · have : x = g := by simpa [Own.row, Value.ownBlock, eq_comm] using hx
      subst this
      exact ⟨.inl (by simp [Own.row, Value.ownBlock]), Nat.lt_of_lt_of_le hlt hgr.size⟩
end Go.Proofs.Ytchcdadpahakfaa.GV
