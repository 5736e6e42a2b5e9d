/- Walks of single functions, written by a program of this work. -/
import Derived.Test.YtchcdadpahakfaaGv33
import Derived.Test.YtchcdadpahakfaaProg
import Derived.Test.YtchcdadpahakfaaGSortI
import Derived.Test.YtchcdadpahakfaaGv43
import Derived.Test.YtchcdadpahakfaaGv45
namespace Go.Proofs.Ytchcdadpahakfaa.GV
open Go Go.RowKit
set_option linter.unusedVariables false
set_option linter.unusedSimpArgs false
set_option maxRecDepth 100000

/-! punctual/net.Middle -/
abbrev net_Middle.Post (w0 : World) (r : Int × Int) (e : Ending) (w : World) : Prop := e = .returned (.tuple #[.int .i64 r.1, .int .i64 r.2]) ∧ St w0 w []
def net_Middle.p0 (l0 : List Int) : Option (Unit ⊕ (Int × Int)) :=
    if (l0.length : Int) < 1 then
      some (.inr (0, 2))
    else
      if (l0.length : Int) > 10 then
        some (.inr (0, 2))
      else
        some (.inl ())
def net_Middle.r1 (l0 : List Int) : Nat → Option (Nat ⊕ (Unit ⊕ (Int × Int)))
  | i1 =>
    if (i1 : Int) < (l0.length : Int) then
      match l0[i1]? with
      | none => none
      | some e1 =>
        if e1 < (-1099511627776) then
          some (.inr (.inr (0, 3)))
        else
          if e1 > 1099511627776 then
            some (.inr (.inr (0, 3)))
          else
            some (.inl (i1 + 1))
    else
      some (.inr (.inl ()))
def net_Middle.f (K : Nat) (l0 : List Int) (x1 : Int) : Option (Int × Int) :=
  match net_Middle.p0 l0 with
  | none => none
  | some (.inl _) =>
    match iter (net_Middle.r1 l0) K 0 with
    | none => none
    | some (.inl _) =>
      if x1 < 0 then
        some (0, 13)
      else
        if x1 > 10 then
          some (0, 13)
        else
          if (l0.length : Int) < (IntKind.i64.wrap ((IntKind.i64.wrap (3 * x1)) + 1)) then
            some (0, 13)
          else
            if 1 ≤ l0.length then
              if l0.length ≤ 1000 then
                if 0 ≤ x1 then
                  match (List.mergeSort l0 (fun x y => decide (x ≤ y)))[(x1).toNat]? with
                  | none => none
                  | some e2 =>
                    if 0 ≤ (IntKind.i64.wrap ((IntKind.i64.wrap (((List.mergeSort l0 (fun x y => decide (x ≤ y))).length : Int) - 1)) - x1)) then
                      match (List.mergeSort l0 (fun x y => decide (x ≤ y)))[(IntKind.i64.wrap ((IntKind.i64.wrap (((List.mergeSort l0 (fun x y => decide (x ≤ y))).length : Int) - 1)) - x1)).toNat]? with
                      | none => none
                      | some e3 =>
                        some (Int.fdiv (IntKind.i64.wrap (e2 + e3)) (2 ^ 1), 0)
                    else
                      none
                else
                  none
              else
                none
            else
              none
    | some (.inr rr1) =>
      some rr1
  | some (.inr rr2) =>
    some rr2
abbrev net_Middle.A0 (K : Nat) (w0 : World) (l0 : List Int) (A0 : Option Addr) (c0 : Nat) (x1 : Int) (hR0 : RdL w0 A0 l0) (hL0 : l0.length ≤ c0) : Unit → Act → World → Prop := fun (s : Unit) a w => St w0 w [] ∧ Frm 61 a [(0, .slice A0 l0.length c0), (1, .int .i64 x1)]
abbrev net_Middle.B0 (K : Nat) (w0 : World) (l0 : List Int) (A0 : Option Addr) (c0 : Nat) (x1 : Int) (hR0 : RdL w0 A0 l0) (hL0 : l0.length ≤ c0) : (Int × Int) → Exit → Act → World → Prop := Rets Try.prog Try.f28 (net_Middle.Post w0)
theorem net_Middle_p0 (K : Nat) (w0 : World) (l0 : List Int) (A0 : Option Addr) (c0 : Nat) (x1 : Int) (hR0 : RdL w0 A0 l0) (hL0 : l0.length ≤ c0) (o : Unit ⊕ (Int × Int)) (h : net_Middle.p0 l0 = some o) (w : World) (hS : St w0 w []) (Q : Exit → Act → World → Prop) (hQ : ∀ x a w, Outs (net_Middle.A0 K w0 l0 A0 c0 x1 hR0 hL0) (net_Middle.B0 K w0 l0 A0 c0 x1 hR0 hL0) o x a w → Q x a w) : WE Try.prog 61 (subF Try.f28 [1, 0]) Q [(0, .slice A0 l0.length c0), (1, .int .i64 x1), (4, .int .i64 0), (5, .int .i64 0)] w := by
  simp only [net_Middle.p0] at h
  refine we_seq fun K3 hK3 => ?_
  refine we_region [(0, 0), (1, 0), (2, 0), (3, 0), (4, 0), (5, 0), (6, 0), (7, 0)] rfl ?_
  refine ge_batch [0, 1, 2, 3] (ans := []) (vs := [(12, .bool (decide ((l0.length : Int) < 1))), (11, .bool (decide ((l0.length : Int) < 1))), (10, .int .i64 (l0.length : Int)), (9, .slice A0 l0.length c0)]) (l := []) (by kernel_rfl) trivial ?_
  by_cases hc1 : (l0.length : Int) < 1
  · rw [if_pos hc1] at h
    refine ge_known (t := 12) (b := decide ((l0.length : Int) < 1)) (c := true) (by kernel_rfl) (decide_eq_true hc1) ?_
    refine ge_batch [4, 5, 6, 7] (ans := []) (vs := [(16, .bool true), (15, undef), (14, undef), (13, undef)]) (l := []) (by kernel_rfl) trivial ?_
    refine ge_nil fun a hF => hK3 _ _ ?_ a hF
    refine we_true (by kernel_rfl) ?_
    refine we_seq fun K4 hK4 => ?_
    refine we_region [(0, 0), (1, 0)] rfl ?_
    refine ge_batch [0, 1] (ans := []) (vs := [(5, .int .i64 2), (4, .int .i64 0)]) (l := []) (by kernel_rfl) trivial ?_
    refine ge_nil fun a hF => hK4 _ _ ?_ a hF
    obtain rfl := Option.some.inj h
    exact we_ret fun a hF => hQ _ _ _ (Outs.out nofun ⟨rfl, (post_ret (rs := [.tmp 4, .tmp 5]) (ans := []) (vs := [.int .i64 0, .int .i64 2]) (l := []) rfl (by kernel_rfl) trivial ⟨rfl, hS⟩) a hF⟩)
  · rw [if_neg hc1] at h
    refine ge_known (t := 12) (b := decide ((l0.length : Int) < 1)) (c := false) (by kernel_rfl) (decide_eq_false hc1) ?_
    refine ge_batch [4, 5, 6, 7] (ans := []) (vs := [(16, .bool (decide ((l0.length : Int) > 10))), (15, .bool (decide ((l0.length : Int) > 10))), (14, .int .i64 (l0.length : Int)), (13, .slice A0 l0.length c0)]) (l := []) (by kernel_rfl) trivial ?_
    refine ge_nil fun a hF => hK3 _ _ ?_ a hF
    by_cases hc2 : (l0.length : Int) > 10
    · rw [if_pos hc2] at h
      refine we_known (t := 16) (b := decide ((l0.length : Int) > 10)) (v := true) (by kernel_rfl) (decide_eq_true hc2) ?_
      refine we_true (by kernel_rfl) ?_
      refine we_seq fun K5 hK5 => ?_
      refine we_region [(0, 0), (1, 0)] rfl ?_
      refine ge_batch [0, 1] (ans := []) (vs := [(5, .int .i64 2), (4, .int .i64 0)]) (l := []) (by kernel_rfl) trivial ?_
      refine ge_nil fun a hF => hK5 _ _ ?_ a hF
      obtain rfl := Option.some.inj h
      exact we_ret fun a hF => hQ _ _ _ (Outs.out nofun ⟨rfl, (post_ret (rs := [.tmp 4, .tmp 5]) (ans := []) (vs := [.int .i64 0, .int .i64 2]) (l := []) rfl (by kernel_rfl) trivial ⟨rfl, hS⟩) a hF⟩)
    · rw [if_neg hc2] at h
      refine we_known (t := 16) (b := decide ((l0.length : Int) > 10)) (v := false) (by kernel_rfl) (decide_eq_false hc2) ?_
      refine we_false (by kernel_rfl) ?_
      obtain rfl := Option.some.inj h
      exact we_skip fun a hF => hQ _ _ _ (Outs.again ⟨hS, hF.weaken ⟨by kernel_rfl, by kernel_rfl, trivial⟩⟩)
abbrev net_Middle.A1 (K : Nat) (w0 : World) (l0 : List Int) (A0 : Option Addr) (c0 : Nat) (x1 : Int) (hR0 : RdL w0 A0 l0) (hL0 : l0.length ≤ c0) : Nat → Act → World → Prop := fun (s : Nat) a w => St w0 w [] ∧ Frm 61 a [(0, .slice A0 l0.length c0), (1, .int .i64 x1), (17, .slice A0 l0.length c0), (18, .int .i64 (l0.length : Int)), (19, .int .i64 (s : Int))]
abbrev net_Middle.B1 (K : Nat) (w0 : World) (l0 : List Int) (A0 : Option Addr) (c0 : Nat) (x1 : Int) (hR0 : RdL w0 A0 l0) (hL0 : l0.length ≤ c0) : (Unit ⊕ (Int × Int)) → Exit → Act → World → Prop := Exits 0 (fun (s : Unit) a w => St w0 w [] ∧ Frm 61 a [(0, .slice A0 l0.length c0), (1, .int .i64 x1)]) (Rets Try.prog Try.f28 (net_Middle.Post w0))
theorem net_Middle_r1 (K : Nat) (w0 : World) (l0 : List Int) (A0 : Option Addr) (c0 : Nat) (x1 : Int) (hR0 : RdL w0 A0 l0) (hL0 : l0.length ≤ c0) (s : Nat) (o : Nat ⊕ (Unit ⊕ (Int × Int))) (h : net_Middle.r1 l0 s = some o) (a : Act) (w : World) (hA : net_Middle.A1 K w0 l0 A0 c0 x1 hR0 hL0 s a w) (Q : Exit → Act → World → Prop) (hQ : ∀ x a w, Outs (net_Middle.A1 K w0 l0 A0 c0 x1 hR0 hL0) (net_Middle.B1 K w0 l0 A0 c0 x1 hR0 hL0) o x a w → Q x a w) : (subF Try.f28 [1, 1, 0, 1, 0, 0]).wp Try.prog Q a w := by
  obtain ⟨i1, hs⟩ : ∃ z, z = s := ⟨s, rfl⟩
  subst hs
  obtain ⟨hS, hF⟩ := hA
  replace hS : St w0 w [] := hS
  simp only [net_Middle.r1] at h
  refine (?_ : WE Try.prog 61 (subF Try.f28 [1, 1, 0, 1, 0, 0]) Q [(0, .slice A0 l0.length c0), (1, .int .i64 x1), (17, .slice A0 l0.length c0), (18, .int .i64 (l0.length : Int)), (19, .int .i64 (i1 : Int))] w) a hF
  clear hF a
  refine we_seq fun K8 hK8 => ?_
  refine we_region [(0, 0)] rfl ?_
  refine ge_batch [0] (ans := []) (vs := [(20, .bool (decide ((i1 : Int) < (l0.length : Int))))]) (l := []) (by kernel_rfl) trivial ?_
  refine ge_nil fun a hF => hK8 _ _ ?_ a hF
  refine we_seq fun K9 hK9 => ?_
  by_cases hc3 : (i1 : Int) < (l0.length : Int)
  · rw [if_pos hc3] at h
    refine we_known (t := 20) (b := decide ((i1 : Int) < (l0.length : Int))) (v := true) (by kernel_rfl) (decide_eq_true hc3) ?_
    refine we_true (by kernel_rfl) ?_
    refine we_skip fun a hF => hK9 _ _ ?_ a hF
    refine we_seq fun K10 hK10 => ?_
    refine we_block ?_
    refine we_seq fun K11 hK11 => ?_
    refine we_region [(0, 0), (1, 0), (2, 0)] rfl ?_
    rcases hx1 : l0[i1]? with _ | e1
    · rw [hx1] at h; cases h
    rw [hx1] at h
    simp only [] at h
    refine ge_index (d := 21) (ty := 0) (t := 26) (el := 3) (sz := 1) (m := l0.length) (c := c0) (x := (.tmp 17)) (y := (.tmp 19)) (A := A0) (k' := .i64) (j := (i1 : Int)) (jn := i1) (b0 := blkOf A0) (o0 := offOf A0) (by kernel_rfl) (by kernel_rfl) (by kernel_rfl) (by kernel_rfl) (by kernel_rfl) ((hS.rd hR0).eqSome (pos_of_get hx1)) rfl (lt_of_get hx1) ?_
    refine ge_batch [1, 2] (ans := [.val (.int .i64 e1)]) (vs := [(7, .int .i64 e1), (22, .int .i64 e1)]) (l := [.loaded ⟨blkOf A0, offOf A0 + i1 * 1, none⟩ (.int .i64 e1)]) (by kernel_rfl) ⟨RdL.cell (j := 0) (hS.rd hR0) hx1 rfl, trivial⟩ ?_
    refine ge_nil fun a hF => hK11 _ _ ?_ a hF
    refine we_seq fun K12 hK12 => ?_
    refine we_region [(0, 0), (1, 0), (2, 0), (3, 0), (4, 0), (5, 0)] rfl ?_
    refine ge_batch [0, 1, 2] (ans := []) (vs := [(25, .bool (decide (e1 < (-1099511627776)))), (24, .bool (decide (e1 < (-1099511627776)))), (23, .int .i64 e1)]) (l := []) (by kernel_rfl) trivial ?_
    by_cases hc4 : e1 < (-1099511627776)
    · rw [if_pos hc4] at h
      refine ge_known (t := 25) (b := decide (e1 < (-1099511627776))) (c := true) (by kernel_rfl) (decide_eq_true hc4) ?_
      refine ge_batch [3, 4, 5] (ans := []) (vs := [(28, .bool true), (27, undef), (26, undef)]) (l := []) (by kernel_rfl) trivial ?_
      refine ge_nil fun a hF => hK12 _ _ ?_ a hF
      refine we_true (by kernel_rfl) ?_
      refine we_seq fun K13 hK13 => ?_
      refine we_region [(0, 0), (1, 0)] rfl ?_
      refine ge_batch [0, 1] (ans := []) (vs := [(5, .int .i64 3), (4, .int .i64 0)]) (l := []) (by kernel_rfl) trivial ?_
      refine ge_nil fun a hF => hK13 _ _ ?_ a hF
      obtain rfl := Option.some.inj h
      exact we_ret fun a hF => hQ _ _ _ (Outs.out nofun (Exits.on ⟨rfl, (post_ret (rs := [.tmp 4, .tmp 5]) (ans := []) (vs := [.int .i64 0, .int .i64 3]) (l := []) rfl (by kernel_rfl) trivial ⟨rfl, hS⟩) a hF⟩))
    · rw [if_neg hc4] at h
      refine ge_known (t := 25) (b := decide (e1 < (-1099511627776))) (c := false) (by kernel_rfl) (decide_eq_false hc4) ?_
      refine ge_batch [3, 4, 5] (ans := []) (vs := [(28, .bool (decide (e1 > 1099511627776))), (27, .bool (decide (e1 > 1099511627776))), (26, .int .i64 e1)]) (l := []) (by kernel_rfl) trivial ?_
      refine ge_nil fun a hF => hK12 _ _ ?_ a hF
      by_cases hc5 : e1 > 1099511627776
      · rw [if_pos hc5] at h
        refine we_known (t := 28) (b := decide (e1 > 1099511627776)) (v := true) (by kernel_rfl) (decide_eq_true hc5) ?_
        refine we_true (by kernel_rfl) ?_
        refine we_seq fun K14 hK14 => ?_
        refine we_region [(0, 0), (1, 0)] rfl ?_
        refine ge_batch [0, 1] (ans := []) (vs := [(5, .int .i64 3), (4, .int .i64 0)]) (l := []) (by kernel_rfl) trivial ?_
        refine ge_nil fun a hF => hK14 _ _ ?_ a hF
        obtain rfl := Option.some.inj h
        exact we_ret fun a hF => hQ _ _ _ (Outs.out nofun (Exits.on ⟨rfl, (post_ret (rs := [.tmp 4, .tmp 5]) (ans := []) (vs := [.int .i64 0, .int .i64 3]) (l := []) rfl (by kernel_rfl) trivial ⟨rfl, hS⟩) a hF⟩))
      · rw [if_neg hc5] at h
        refine we_known (t := 28) (b := decide (e1 > 1099511627776)) (v := false) (by kernel_rfl) (decide_eq_false hc5) ?_
        refine we_false (by kernel_rfl) ?_
        refine we_skip fun a hF => hK10 _ _ ?_ a hF
        refine we_region [(0, 0), (1, 0)] rfl ?_
        refine ge_addn (d := 29) (ty := 3) (x := (.tmp 19)) (y := (.const (.int .i64 1))) (t := 3) (t2 := 3) (k := .i64) (m := i1) (by kernel_rfl) (by kernel_rfl) (by kernel_rfl) (by have h0 := hR0.small; omega) ?_
        refine ge_batch [1] (ans := []) (vs := [(19, .int .i64 ((i1 + 1 : Nat) : Int))]) (l := []) (by kernel_rfl) trivial ?_
        obtain rfl := Option.some.inj h
        exact ge_nil fun a hF => hQ _ _ _ (Outs.again ⟨hS, hF.weaken ⟨by kernel_rfl, by kernel_rfl, by kernel_rfl, by kernel_rfl, by kernel_rfl, trivial⟩⟩)
  · rw [if_neg hc3] at h
    refine we_known (t := 20) (b := decide ((i1 : Int) < (l0.length : Int))) (v := false) (by kernel_rfl) (decide_eq_false hc3) ?_
    refine we_false (by kernel_rfl) ?_
    obtain rfl := Option.some.inj h
    exact we_exit fun a hF => hQ _ _ _ (Outs.out nofun (Exits.here ⟨hS, hF.weaken ⟨by kernel_rfl, by kernel_rfl, trivial⟩⟩))
theorem net_Middle_ok (K : Nat) (l0 : List Int) (A0 : Option Addr) (c0 : Nat) (x1 : Int) (w0 : World) (hR0 : RdL w0 A0 l0) (hL0 : l0.length ≤ c0) (r : Int × Int) (h : net_Middle.f K l0 x1 = some r) :
    Calls Try.prog 28 #[.slice A0 l0.length c0, .int .i64 x1] w0 (net_Middle.Post w0 r) := by
  have hS := St.start w0
  unfold net_Middle.f at h
  refine calls_enter (n := 61) (args := [.slice A0 l0.length c0, .int .i64 x1]) (fn := Try.f28) rfl rfl rfl rfl ?_
  show WE _ _ _ _ [(0, .slice A0 l0.length c0), (1, .int .i64 x1)] _
  refine we_seq fun K1 hK1 => ?_
  refine we_region [(0, 0), (1, 0)] rfl ?_
  refine ge_batch [0, 1] (ans := []) (vs := [(5, .int .i64 0), (4, .int .i64 0)]) (l := []) (by kernel_rfl) trivial ?_
  refine ge_nil fun a hF => hK1 _ _ ?_ a hF
  refine we_seq fun K2 hK2 => ?_
  rcases hq1 : net_Middle.p0 l0 with _ | (_ | rr2)
  · rw [hq1] at h; cases h
  · rw [hq1] at h
    simp only [] at h
    refine we_keep (e' := [(0, .slice A0 l0.length c0), (1, .int .i64 x1), (4, .int .i64 0), (5, .int .i64 0)]) ⟨by kernel_rfl, by kernel_rfl, by kernel_rfl, by kernel_rfl, trivial⟩ (net_Middle_p0 K w0 l0 A0 c0 x1 hR0 hL0 _ hq1 _ hS _ ?_)
    rintro _ a w1 ⟨rfl, hS1, hF⟩
    replace hS1 : St w0 w1 [] := hS1
    refine hK2 [(0, .slice A0 l0.length c0), (1, .int .i64 x1)] w1 ?_ a hF
    refine we_seq fun K6 hK6 => ?_
    refine we_seq fun K7 hK7 => ?_
    refine we_region [(0, 0), (1, 0), (2, 0)] rfl ?_
    refine ge_batch [0, 1, 2] (ans := []) (vs := [(19, .int .i64 0), (18, .int .i64 (l0.length : Int)), (17, .slice A0 l0.length c0)]) (l := []) (by kernel_rfl) trivial ?_
    refine ge_nil fun a hF => hK7 _ _ ?_ a hF
    refine we_block ?_
    rcases hq2 : iter (net_Middle.r1 l0) K 0 with _ | (_ | rr1)
    · rw [hq2] at h; cases h
    · rw [hq2] at h
      simp only [] at h
      refine we_iter (A := net_Middle.A1 K w0 l0 A0 c0 x1 hR0 hL0) (B := net_Middle.B1 K w0 l0 A0 c0 x1 hR0 hL0) hq2 (fun a hF => ⟨hS1, hF.weaken ⟨by kernel_rfl, by kernel_rfl, by kernel_rfl, by kernel_rfl, by kernel_rfl, trivial⟩⟩) (fun s o hf a w hA Q hQ => net_Middle_r1 K w0 l0 A0 c0 x1 hR0 hL0 s o hf a w hA Q hQ) ?_
      rintro _ a w2 _ ⟨rfl, hS2, hF⟩
      replace hS2 : St w0 w2 [] := hS2
      refine hK6 [(0, .slice A0 l0.length c0), (1, .int .i64 x1)] w2 ?_ a hF
      refine we_seq fun K15 hK15 => ?_
      refine we_seq fun K16 hK16 => ?_
      refine we_region [(0, 0), (1, 0), (2, 0), (3, 0), (4, 0), (5, 0), (6, 0), (7, 0), (8, 0), (9, 0), (10, 0), (11, 0), (12, 0), (13, 0)] rfl ?_
      refine ge_batch [0, 1, 2] (ans := []) (vs := [(32, .bool (decide (x1 < 0))), (31, .bool (decide (x1 < 0))), (30, .int .i64 x1)]) (l := []) (by kernel_rfl) trivial ?_
      by_cases hc6 : x1 < 0
      · rw [if_pos hc6] at h
        refine ge_known (t := 32) (b := decide (x1 < 0)) (c := true) (by kernel_rfl) (decide_eq_true hc6) ?_
        refine ge_batch [3, 4, 5, 6, 7, 8, 9, 10, 11, 12, 13] (ans := []) (vs := [(43, .bool true), (42, undef), (41, undef), (40, undef), (39, undef), (38, undef), (37, undef), (36, .bool true), (35, .bool true), (34, undef), (33, undef)]) (l := []) (by kernel_rfl) trivial ?_
        refine ge_nil fun a hF => hK16 _ _ ?_ a hF
        refine we_true (by kernel_rfl) ?_
        refine we_seq fun K17 hK17 => ?_
        refine we_region [(0, 0), (1, 0)] rfl ?_
        refine ge_batch [0, 1] (ans := []) (vs := [(5, .int .i64 13), (4, .int .i64 0)]) (l := []) (by kernel_rfl) trivial ?_
        refine ge_nil fun a hF => hK17 _ _ ?_ a hF
        obtain rfl := Option.some.inj h
        exact we_ret (post_ret (rs := [.tmp 4, .tmp 5]) (ans := []) (vs := [.int .i64 0, .int .i64 13]) (l := []) rfl (by kernel_rfl) trivial ⟨rfl, hS2⟩)
      · rw [if_neg hc6] at h
        refine ge_known (t := 32) (b := decide (x1 < 0)) (c := false) (by kernel_rfl) (decide_eq_false hc6) ?_
        refine ge_batch [3, 4, 5, 6] (ans := []) (vs := [(36, .bool (decide (x1 > 10))), (35, .bool (decide (x1 > 10))), (34, .bool (decide (x1 > 10))), (33, .int .i64 x1)]) (l := []) (by kernel_rfl) trivial ?_
        by_cases hc7 : x1 > 10
        · rw [if_pos hc7] at h
          refine ge_known (t := 36) (b := decide (x1 > 10)) (c := true) (by kernel_rfl) (decide_eq_true hc7) ?_
          refine ge_batch [7, 8, 9, 10, 11, 12, 13] (ans := []) (vs := [(43, .bool true), (42, undef), (41, undef), (40, undef), (39, undef), (38, undef), (37, undef)]) (l := []) (by kernel_rfl) trivial ?_
          refine ge_nil fun a hF => hK16 _ _ ?_ a hF
          refine we_true (by kernel_rfl) ?_
          refine we_seq fun K18 hK18 => ?_
          refine we_region [(0, 0), (1, 0)] rfl ?_
          refine ge_batch [0, 1] (ans := []) (vs := [(5, .int .i64 13), (4, .int .i64 0)]) (l := []) (by kernel_rfl) trivial ?_
          refine ge_nil fun a hF => hK18 _ _ ?_ a hF
          obtain rfl := Option.some.inj h
          exact we_ret (post_ret (rs := [.tmp 4, .tmp 5]) (ans := []) (vs := [.int .i64 0, .int .i64 13]) (l := []) rfl (by kernel_rfl) trivial ⟨rfl, hS2⟩)
        · rw [if_neg hc7] at h
          refine ge_known (t := 36) (b := decide (x1 > 10)) (c := false) (by kernel_rfl) (decide_eq_false hc7) ?_
          refine ge_batch [7, 8, 9, 10, 11, 12, 13] (ans := []) (vs := [(43, .bool (decide ((l0.length : Int) < (IntKind.i64.wrap ((IntKind.i64.wrap (3 * x1)) + 1))))), (42, .bool (decide ((l0.length : Int) < (IntKind.i64.wrap ((IntKind.i64.wrap (3 * x1)) + 1))))), (41, .int .i64 (IntKind.i64.wrap ((IntKind.i64.wrap (3 * x1)) + 1))), (40, .int .i64 (IntKind.i64.wrap (3 * x1))), (39, .int .i64 x1), (38, .int .i64 (l0.length : Int)), (37, .slice A0 l0.length c0)]) (l := []) (by kernel_rfl) trivial ?_
          refine ge_nil fun a hF => hK16 _ _ ?_ a hF
          by_cases hc8 : (l0.length : Int) < (IntKind.i64.wrap ((IntKind.i64.wrap (3 * x1)) + 1))
          · rw [if_pos hc8] at h
            refine we_known (t := 43) (b := decide ((l0.length : Int) < (IntKind.i64.wrap ((IntKind.i64.wrap (3 * x1)) + 1)))) (v := true) (by kernel_rfl) (decide_eq_true hc8) ?_
            refine we_true (by kernel_rfl) ?_
            refine we_seq fun K19 hK19 => ?_
            refine we_region [(0, 0), (1, 0)] rfl ?_
            refine ge_batch [0, 1] (ans := []) (vs := [(5, .int .i64 13), (4, .int .i64 0)]) (l := []) (by kernel_rfl) trivial ?_
            refine ge_nil fun a hF => hK19 _ _ ?_ a hF
            obtain rfl := Option.some.inj h
            exact we_ret (post_ret (rs := [.tmp 4, .tmp 5]) (ans := []) (vs := [.int .i64 0, .int .i64 13]) (l := []) rfl (by kernel_rfl) trivial ⟨rfl, hS2⟩)
          · rw [if_neg hc8] at h
            refine we_known (t := 43) (b := decide ((l0.length : Int) < (IntKind.i64.wrap ((IntKind.i64.wrap (3 * x1)) + 1)))) (v := false) (by kernel_rfl) (decide_eq_false hc8) ?_
            refine we_false (by kernel_rfl) ?_
            refine we_skip fun a hF => hK15 _ _ ?_ a hF
            refine we_seq fun K20 hK20 => ?_
            refine we_region [(0, 0), (1, 1), (2, 1), (3, 0)] rfl ?_
            refine ge_batch [0] (ans := []) (vs := [(44, .slice A0 l0.length c0)]) (l := []) (by kernel_rfl) trivial ?_
            refine ge_call (d := some 45) (f := 47) (args := #[.slice A0 l0.length c0]) (by kernel_rfl) (values_ok A0 l0.length c0 _) ?_
            rintro _ w3 ⟨b1, rfl, hS3⟩
            refine ⟨_, rfl, hS3.below, ?_⟩
            have hS4 := hS2.call hS3
            by_cases hc9 : 1 ≤ l0.length
            · rw [if_pos hc9] at h
              by_cases hc10 : l0.length ≤ 1000
              · rw [if_pos hc10] at h
                refine ge_call (d := some 46) (f := 46) (args := #[.func (.func 64) #[] #[.pointer (some ⟨b1, 0, none⟩)]]) (by kernel_rfl) (sorted_ok b1 A0 c0 l0 _ (hS4.cell 0 rfl rfl) (hS4.rd hR0) (hL0) hc9 hc10) ?_
                rintro _ w4 ⟨v1, rfl, hS5⟩
                refine ⟨_, rfl, hS5.below, ?_⟩
                have hS6 := hS4.call hS5
                refine ge_batch [3] (ans := []) (vs := [(8, v1)]) (l := []) (by kernel_rfl) trivial ?_
                refine ge_nil fun a hF => hK20 _ _ ?_ a hF
                refine we_seq fun K21 hK21 => ?_
                refine we_draws (by kernel_rfl) [(0, 0), (1, 0), (2, 0), (3, 0), (4, 0), (5, 0), (6, 0), (7, 0), (8, 0), (9, 0), (10, 0), (11, 0), (12, 0), (13, 0), (14, 0), (15, 0)] (by kernel_rfl) ?_
                have hS7 := hS6.drew
                refine ge_batch [0, 1] (ans := []) (vs := [(48, .int .i64 x1), (47, v1)]) (l := []) (by kernel_rfl) trivial ?_
                obtain ⟨Z1, cz1, rfl⟩ := hS7.open 0 rfl
                by_cases hc11 : 0 ≤ x1
                · rw [if_pos hc11] at h
                  rcases hx2 : (List.mergeSort l0 (fun x y => decide (x ≤ y)))[(x1).toNat]? with _ | e2
                  · rw [hx2] at h; cases h
                  rw [hx2] at h
                  simp only [] at h
                  refine ge_index (d := 49) (ty := 0) (t := 26) (el := 3) (sz := 1) (m := (List.mergeSort l0 (fun x y => decide (x ≤ y))).length) (c := cz1) (x := (.tmp 47)) (y := (.tmp 48)) (A := Z1) (k' := .i64) (j := x1) (jn := ((x1).toNat)) (b0 := blkOf Z1) (o0 := offOf Z1) (by kernel_rfl) (by kernel_rfl) (by kernel_rfl) (by kernel_rfl) (by kernel_rfl) ((hS7.rdAt 0 rfl).eqSome (pos_of_get hx2)) (Int.toNat_of_nonneg hc11).symm (lt_of_get hx2) ?_
                  refine ge_batch [3, 4, 5, 6, 7, 8, 9] (ans := [.val (.int .i64 e2)]) (vs := [(56, .int .i64 (IntKind.i64.wrap ((IntKind.i64.wrap (((List.mergeSort l0 (fun x y => decide (x ≤ y))).length : Int) - 1)) - x1))), (55, .int .i64 x1), (54, .int .i64 (IntKind.i64.wrap (((List.mergeSort l0 (fun x y => decide (x ≤ y))).length : Int) - 1))), (53, .int .i64 ((List.mergeSort l0 (fun x y => decide (x ≤ y))).length : Int)), (52, (.slice Z1 (List.mergeSort l0 (fun x y => decide (x ≤ y))).length cz1)), (51, (.slice Z1 (List.mergeSort l0 (fun x y => decide (x ≤ y))).length cz1)), (50, .int .i64 e2)]) (l := [.loaded ⟨blkOf Z1, offOf Z1 + ((x1).toNat) * 1, none⟩ (.int .i64 e2)]) (by kernel_rfl) ⟨RdL.cell (j := 0) (hS7.rdAt 0 rfl) hx2 rfl, trivial⟩ ?_
                  by_cases hc12 : 0 ≤ (IntKind.i64.wrap ((IntKind.i64.wrap (((List.mergeSort l0 (fun x y => decide (x ≤ y))).length : Int) - 1)) - x1))
                  · rw [if_pos hc12] at h
                    rcases hx3 : (List.mergeSort l0 (fun x y => decide (x ≤ y)))[(IntKind.i64.wrap ((IntKind.i64.wrap (((List.mergeSort l0 (fun x y => decide (x ≤ y))).length : Int) - 1)) - x1)).toNat]? with _ | e3
                    · rw [hx3] at h; cases h
                    rw [hx3] at h
                    simp only [] at h
                    refine ge_index (d := 57) (ty := 0) (t := 26) (el := 3) (sz := 1) (m := (List.mergeSort l0 (fun x y => decide (x ≤ y))).length) (c := cz1) (x := (.tmp 51)) (y := (.tmp 56)) (A := Z1) (k' := .i64) (j := (IntKind.i64.wrap ((IntKind.i64.wrap (((List.mergeSort l0 (fun x y => decide (x ≤ y))).length : Int) - 1)) - x1))) (jn := ((IntKind.i64.wrap ((IntKind.i64.wrap (((List.mergeSort l0 (fun x y => decide (x ≤ y))).length : Int) - 1)) - x1)).toNat)) (b0 := blkOf Z1) (o0 := offOf Z1) (by kernel_rfl) (by kernel_rfl) (by kernel_rfl) (by kernel_rfl) (by kernel_rfl) ((hS7.rdAt 0 rfl).eqSome (pos_of_get hx3)) (Int.toNat_of_nonneg hc12).symm (lt_of_get hx3) ?_
                    refine ge_batch [11, 12, 13, 14, 15] (ans := [.val (.int .i64 e3)]) (vs := [(5, .int .i64 0), (4, .int .i64 (Int.fdiv (IntKind.i64.wrap (e2 + e3)) (2 ^ 1))), (60, .int .i64 (Int.fdiv (IntKind.i64.wrap (e2 + e3)) (2 ^ 1))), (59, .int .i64 (IntKind.i64.wrap (e2 + e3))), (58, .int .i64 e3)]) (l := [.loaded ⟨blkOf Z1, offOf Z1 + ((IntKind.i64.wrap ((IntKind.i64.wrap (((List.mergeSort l0 (fun x y => decide (x ≤ y))).length : Int) - 1)) - x1)).toNat) * 1, none⟩ (.int .i64 e3)]) (by kernel_rfl) ⟨RdL.cell (j := 0) (hS7.rdAt 0 rfl) hx3 rfl, trivial⟩ ?_
                    refine ge_nil fun a hF => hK21 _ _ ?_ a hF
                    have hS8 := hS7.takeN 0
                    obtain rfl := Option.some.inj h
                    exact we_ret (post_ret (rs := [.tmp 4, .tmp 5]) (ans := []) (vs := [.int .i64 (Int.fdiv (IntKind.i64.wrap (e2 + e3)) (2 ^ 1)), .int .i64 0]) (l := []) rfl (by kernel_rfl) trivial ⟨rfl, hS8⟩)
                  · rw [if_neg hc12] at h
                    cases h
                · rw [if_neg hc11] at h
                  cases h
              · rw [if_neg hc10] at h
                cases h
            · rw [if_neg hc9] at h
              cases h
    · rw [hq2] at h
      simp only [] at h
      refine we_iter (A := net_Middle.A1 K w0 l0 A0 c0 x1 hR0 hL0) (B := net_Middle.B1 K w0 l0 A0 c0 x1 hR0 hL0) hq2 (fun a hF => ⟨hS1, hF.weaken ⟨by kernel_rfl, by kernel_rfl, by kernel_rfl, by kernel_rfl, by kernel_rfl, trivial⟩⟩) (fun s o hf a w hA Q hQ => net_Middle_r1 K w0 l0 A0 c0 x1 hR0 hL0 s o hf a w hA Q hQ) ?_
      rintro _ a w1 _ ⟨rfl, hb⟩
      obtain rfl := Option.some.inj h
      exact hb
  · rw [hq1] at h
    simp only [] at h
    refine we_keep (e' := [(0, .slice A0 l0.length c0), (1, .int .i64 x1), (4, .int .i64 0), (5, .int .i64 0)]) ⟨by kernel_rfl, by kernel_rfl, by kernel_rfl, by kernel_rfl, trivial⟩ (net_Middle_p0 K w0 l0 A0 c0 x1 hR0 hL0 _ hq1 _ hS _ ?_)
    rintro _ a w1 ⟨_, rfl, hb⟩
    obtain rfl := Option.some.inj h
    exact hb

/-! punctual/punctuallaw.middle -/
abbrev middle.Post (w0 : World) (r : Bool) (e : Ending) (w : World) : Prop := e = .returned (.bool r) ∧ St w0 w []
def middle.f (K : Nat) : Option Bool :=
  match net_Middle.f K ([10, 12, 11, 1000] : List Int) 1 with
  | none => none
  | some r1 =>
    if r1.1 = 11 then
      some (r1.2 == 0)
    else
      some false
theorem middle_ok (K : Nat)  (w0 : World) (r : Bool) (h : middle.f K = some r) :
    Calls Try.prog 18 #[] w0 (middle.Post w0 r) := by
  have hS := St.start w0
  unfold middle.f at h
  refine calls_enter (n := 14) (args := []) (fn := Try.f18) rfl rfl rfl rfl ?_
  show WE _ _ _ _ [] _
  refine we_seq fun K1 hK1 => ?_
  refine we_region [(0, 0)] rfl ?_
  refine ge_batch [0] (ans := []) (vs := [(0, .bool false)]) (l := []) (by kernel_rfl) trivial ?_
  refine ge_nil fun a hF => hK1 _ _ ?_ a hF
  refine we_seq fun K2 hK2 => ?_
  refine we_region [(0, 1), (1, 1), (2, 0), (3, 0), (4, 0), (5, 0), (6, 0)] rfl ?_
  refine ge_new (d := some 4) (o := .cells #[.int .i64 10, .int .i64 12, .int .i64 11, .int .i64 1000] 3) (v := fun b => .slice (some ⟨b, 0, none⟩) 4 4) hS (fun b => by kernel_rfl) fun b1 w1 hx1 hS1 => ?_
  rcases hq1 : net_Middle.f K ([10, 12, 11, 1000] : List Int) 1 with _ | r1
  · rw [hq1] at h; cases h
  rw [hq1] at h
  simp only [] at h
  refine ge_call (d := some 5) (f := 28) (args := #[.slice (some ⟨b1, 0, none⟩) 4 4, .int .i64 1]) (by kernel_rfl) (net_Middle_ok K ([10, 12, 11, 1000] : List Int) (some ⟨b1, 0, none⟩) 4 1 _ (hS1.rdBlk 0 ([10, 12, 11, 1000] : List Int) rfl rfl rfl) (Nat.le_refl _) _ hq1) ?_
  rintro _ w2 ⟨rfl, hS2⟩
  refine ⟨_, rfl, hS2.below, ?_⟩
  have hS3 := hS1.call hS2
  refine ge_batch [2, 3, 4, 5, 6] (ans := []) (vs := [(2, .int .i64 r1.2), (1, .int .i64 r1.1), (7, .int .i64 r1.2), (6, .int .i64 r1.1), (3, .tuple #[.int .i64 r1.1, .int .i64 r1.2])]) (l := []) (by kernel_rfl) trivial ?_
  refine ge_nil fun a hF => hK2 _ _ ?_ a hF
  refine we_seq fun K3 hK3 => ?_
  refine we_region [(0, 0), (1, 0), (2, 0), (3, 0), (4, 0), (5, 0), (6, 0)] rfl ?_
  refine ge_batch [0, 1, 2] (ans := []) (vs := [(10, .bool (r1.1 == 11)), (9, .bool (r1.1 == 11)), (8, .int .i64 r1.1)]) (l := []) (by kernel_rfl) trivial ?_
  by_cases hc1 : r1.1 = 11
  · rw [if_pos hc1] at h
    refine ge_known (t := 10) (b := (r1.1 == 11)) (c := true) (by kernel_rfl) (beq_iff_eq.2 hc1) ?_
    refine ge_batch [3, 4, 5, 6] (ans := []) (vs := [(0, .bool (r1.2 == 0)), (13, .bool (r1.2 == 0)), (12, .bool (r1.2 == 0)), (11, .int .i64 r1.2)]) (l := []) (by kernel_rfl) trivial ?_
    refine ge_nil fun a hF => hK3 _ _ ?_ a hF
    have hS4 := hS3.takeN 0
    obtain rfl := Option.some.inj h
    exact we_ret (post_ret (rs := [.tmp 0]) (ans := []) (vs := [.bool (r1.2 == 0)]) (l := []) rfl (by kernel_rfl) trivial ⟨rfl, hS4⟩)
  · rw [if_neg hc1] at h
    refine ge_known (t := 10) (b := (r1.1 == 11)) (c := false) (by kernel_rfl) (beq_eq_false_iff_ne.2 hc1) ?_
    refine ge_batch [3, 4, 5, 6] (ans := []) (vs := [(0, .bool false), (13, .bool false), (12, undef), (11, undef)]) (l := []) (by kernel_rfl) trivial ?_
    refine ge_nil fun a hF => hK3 _ _ ?_ a hF
    have hS5 := hS3.takeN 0
    obtain rfl := Option.some.inj h
    exact we_ret (post_ret (rs := [.tmp 0]) (ans := []) (vs := [.bool false]) (l := []) rfl (by kernel_rfl) trivial ⟨rfl, hS5⟩)

/-! punctual/punctuallaw.ClockClose$3 -/
abbrev ClockClose_3.Post (w0 : World) (r : Int) (e : Ending) (w : World) : Prop := e = .returned (.int .i64 r) ∧ St w0 w []
def ClockClose_3.r0 (lf_0 : List Int) (xf_1 : Int) : Int × Int × Nat → Option ((Int × Int × Nat) ⊕ ((Int × Int) ⊕ Int))
  | (z1, z2, i1) =>
    if (i1 : Int) < (((lf_0.take ((xf_1).toNat)).drop 0).length : Int) then
      match ((lf_0.take ((xf_1).toNat)).drop 0)[i1]? with
      | none => none
      | some e2 =>
        some (.inl (gmin z1 e2, gmax z2 e2, (i1 + 1)))
    else
      some (.inr (.inl (z1, z2)))
def ClockClose_3.f (K : Nat) (lf_0 : List Int) (xf_1 : Int) : Option Int :=
  match lf_0[0]? with
  | none => none
  | some e1 =>
    if 0 ≤ xf_1 then
      if ((xf_1).toNat) ≤ lf_0.length then
        match iter (ClockClose_3.r0 lf_0 xf_1) K (e1, e1, 0) with
        | none => none
        | some (.inl (z5, z6)) =>
          some (IntKind.i64.wrap (z6 - z5))
        | some (.inr rr1) =>
          some rr1
      else
        none
    else
      none
abbrev ClockClose_3.A0 (K : Nat) (w0 : World) (bf_0 : Nat) (lf_0 : List Int) (Af_0 : Option Addr) (cf_0 : Nat) (bf_1 : Nat) (xf_1 : Int) (hRf_0 : RdL w0 Af_0 lf_0) (hLf_0 : lf_0.length ≤ cf_0) (hBf_0 : Glob w0 bf_0 [.slice Af_0 lf_0.length cf_0]) (hBf_1 : Glob w0 bf_1 [.int .i64 xf_1]) (e1 : Int) (hx1 : lf_0[0]? = some e1) (hc1 : 0 ≤ xf_1) (hc2 : ((xf_1).toNat) ≤ lf_0.length) : (Int × Int × Nat) → Act → World → Prop := fun (s : Int × Int × Nat) a w => St w0 w [] ∧ Frm 31 a [(3, .int .i64 s.1), (4, .int .i64 s.2.1), (15, .slice (subA Af_0 cf_0 0 1) (((lf_0.take ((xf_1).toNat)).drop 0).length) (cf_0 - 0)), (16, .int .i64 (((lf_0.take ((xf_1).toNat)).drop 0).length : Int)), (17, .int .i64 (s.2.2 : Int))]
abbrev ClockClose_3.B0 (K : Nat) (w0 : World) (bf_0 : Nat) (lf_0 : List Int) (Af_0 : Option Addr) (cf_0 : Nat) (bf_1 : Nat) (xf_1 : Int) (hRf_0 : RdL w0 Af_0 lf_0) (hLf_0 : lf_0.length ≤ cf_0) (hBf_0 : Glob w0 bf_0 [.slice Af_0 lf_0.length cf_0]) (hBf_1 : Glob w0 bf_1 [.int .i64 xf_1]) (e1 : Int) (hx1 : lf_0[0]? = some e1) (hc1 : 0 ≤ xf_1) (hc2 : ((xf_1).toNat) ≤ lf_0.length) : ((Int × Int) ⊕ Int) → Exit → Act → World → Prop := Exits 0 (fun (s : Int × Int) a w => St w0 w [] ∧ Frm 31 a [(3, .int .i64 s.1), (4, .int .i64 s.2)]) (Rets Try.prog Try.f21 (ClockClose_3.Post w0))
theorem ClockClose_3_r0 (K : Nat) (w0 : World) (bf_0 : Nat) (lf_0 : List Int) (Af_0 : Option Addr) (cf_0 : Nat) (bf_1 : Nat) (xf_1 : Int) (hRf_0 : RdL w0 Af_0 lf_0) (hLf_0 : lf_0.length ≤ cf_0) (hBf_0 : Glob w0 bf_0 [.slice Af_0 lf_0.length cf_0]) (hBf_1 : Glob w0 bf_1 [.int .i64 xf_1]) (e1 : Int) (hx1 : lf_0[0]? = some e1) (hc1 : 0 ≤ xf_1) (hc2 : ((xf_1).toNat) ≤ lf_0.length) (s : Int × Int × Nat) (o : (Int × Int × Nat) ⊕ ((Int × Int) ⊕ Int)) (h : ClockClose_3.r0 lf_0 xf_1 s = some o) (a : Act) (w : World) (hA : ClockClose_3.A0 K w0 bf_0 lf_0 Af_0 cf_0 bf_1 xf_1 hRf_0 hLf_0 hBf_0 hBf_1 e1 hx1 hc1 hc2 s a w) (Q : Exit → Act → World → Prop) (hQ : ∀ x a w, Outs (ClockClose_3.A0 K w0 bf_0 lf_0 Af_0 cf_0 bf_1 xf_1 hRf_0 hLf_0 hBf_0 hBf_1 e1 hx1 hc1 hc2) (ClockClose_3.B0 K w0 bf_0 lf_0 Af_0 cf_0 bf_1 xf_1 hRf_0 hLf_0 hBf_0 hBf_1 e1 hx1 hc1 hc2) o x a w → Q x a w) : (subF Try.f21 [1, 1, 0, 1, 0, 0]).wp Try.prog Q a w := by
  obtain ⟨z1, z2, i1⟩ := s
  obtain ⟨hS, hF⟩ := hA
  replace hS : St w0 w [] := hS
  simp only [ClockClose_3.r0] at h
  refine (?_ : WE Try.prog 31 (subF Try.f21 [1, 1, 0, 1, 0, 0]) Q [(3, .int .i64 z1), (4, .int .i64 z2), (15, .slice (subA Af_0 cf_0 0 1) (((lf_0.take ((xf_1).toNat)).drop 0).length) (cf_0 - 0)), (16, .int .i64 (((lf_0.take ((xf_1).toNat)).drop 0).length : Int)), (17, .int .i64 (i1 : Int))] w) a hF
  clear hF a
  refine we_seq fun K5 hK5 => ?_
  refine we_region [(0, 0)] rfl ?_
  refine ge_batch [0] (ans := []) (vs := [(18, .bool (decide ((i1 : Int) < (((lf_0.take ((xf_1).toNat)).drop 0).length : Int))))]) (l := []) (by kernel_rfl) trivial ?_
  refine ge_nil fun a hF => hK5 _ _ ?_ a hF
  refine we_seq fun K6 hK6 => ?_
  by_cases hc3 : (i1 : Int) < (((lf_0.take ((xf_1).toNat)).drop 0).length : Int)
  · rw [if_pos hc3] at h
    refine we_known (t := 18) (b := decide ((i1 : Int) < (((lf_0.take ((xf_1).toNat)).drop 0).length : Int))) (v := true) (by kernel_rfl) (decide_eq_true hc3) ?_
    refine we_true (by kernel_rfl) ?_
    refine we_skip fun a hF => hK6 _ _ ?_ a hF
    refine we_seq fun K7 hK7 => ?_
    refine we_block ?_
    refine we_seq fun K8 hK8 => ?_
    refine we_region [(0, 0), (1, 0), (2, 0)] rfl ?_
    rcases hx2 : ((lf_0.take ((xf_1).toNat)).drop 0)[i1]? with _ | e2
    · rw [hx2] at h; cases h
    rw [hx2] at h
    simp only [] at h
    refine ge_index (d := 19) (ty := 0) (t := 26) (el := 3) (sz := 1) (m := ((lf_0.take ((xf_1).toNat)).drop 0).length) (c := (cf_0 - 0)) (x := (.tmp 15)) (y := (.tmp 17)) (A := (subA Af_0 cf_0 0 1)) (k' := .i64) (j := (i1 : Int)) (jn := i1) (b0 := blkOf (subA Af_0 cf_0 0 1)) (o0 := offOf (subA Af_0 cf_0 0 1)) (by kernel_rfl) (by kernel_rfl) (by kernel_rfl) (by kernel_rfl) (by kernel_rfl) ((hS.rd (RdL.part hRf_0 hLf_0 0 ((xf_1).toNat))).eqSome (pos_of_get hx2)) rfl (lt_of_get hx2) ?_
    refine ge_batch [1, 2] (ans := [.val (.int .i64 e2)]) (vs := [(6, .int .i64 e2), (20, .int .i64 e2)]) (l := [.loaded ⟨blkOf (subA Af_0 cf_0 0 1), offOf (subA Af_0 cf_0 0 1) + i1 * 1, none⟩ (.int .i64 e2)]) (by kernel_rfl) ⟨RdL.cell (j := 0) (hS.rd (RdL.part hRf_0 hLf_0 0 ((xf_1).toNat))) hx2 rfl, trivial⟩ ?_
    refine ge_nil fun a hF => hK8 _ _ ?_ a hF
    refine we_region [(0, 0), (1, 0), (2, 0), (3, 0), (4, 0), (5, 0), (6, 0), (7, 0)] rfl ?_
    refine ge_batch [0, 1, 2, 3, 4, 5, 6, 7] (ans := []) (vs := [(4, .int .i64 (gmax z2 e2)), (3, .int .i64 (gmin z1 e2)), (26, .int .i64 (gmax z2 e2)), (25, .int .i64 e2), (24, .int .i64 z2), (23, .int .i64 (gmin z1 e2)), (22, .int .i64 e2), (21, .int .i64 z1)]) (l := []) (by kernel_rfl) trivial ?_
    refine ge_nil fun a hF => hK7 _ _ ?_ a hF
    refine we_region [(0, 0), (1, 0)] rfl ?_
    refine ge_addn (d := 27) (ty := 3) (x := (.tmp 17)) (y := (.const (.int .i64 1))) (t := 3) (t2 := 3) (k := .i64) (m := i1) (by kernel_rfl) (by kernel_rfl) (by kernel_rfl) (by have h0 := hRf_0.small; have h1 : ((lf_0.take ((xf_1).toNat)).drop 0).length ≤ lf_0.length := (by simp only [List.length_drop, List.length_take]; omega); omega) ?_
    refine ge_batch [1] (ans := []) (vs := [(17, .int .i64 ((i1 + 1 : Nat) : Int))]) (l := []) (by kernel_rfl) trivial ?_
    obtain rfl := Option.some.inj h
    exact ge_nil fun a hF => hQ _ _ _ (Outs.again ⟨hS, hF.weaken ⟨by kernel_rfl, by kernel_rfl, by kernel_rfl, by kernel_rfl, by kernel_rfl, trivial⟩⟩)
  · rw [if_neg hc3] at h
    refine we_known (t := 18) (b := decide ((i1 : Int) < (((lf_0.take ((xf_1).toNat)).drop 0).length : Int))) (v := false) (by kernel_rfl) (decide_eq_false hc3) ?_
    refine we_false (by kernel_rfl) ?_
    obtain rfl := Option.some.inj h
    exact we_exit fun a hF => hQ _ _ _ (Outs.out nofun (Exits.here ⟨hS, hF.weaken ⟨by kernel_rfl, by kernel_rfl, trivial⟩⟩))
theorem ClockClose_3_ok (K : Nat) (bf_0 : Nat) (lf_0 : List Int) (Af_0 : Option Addr) (cf_0 : Nat) (bf_1 : Nat) (xf_1 : Int) (w0 : World) (hRf_0 : RdL w0 Af_0 lf_0) (hLf_0 : lf_0.length ≤ cf_0) (hBf_0 : Glob w0 bf_0 [.slice Af_0 lf_0.length cf_0]) (hBf_1 : Glob w0 bf_1 [.int .i64 xf_1]) (r : Int) (h : ClockClose_3.f K lf_0 xf_1 = some r) :
    Calls Try.prog 21 #[.pointer (some ⟨bf_0, 0, none⟩), .pointer (some ⟨bf_1, 0, none⟩)] w0 (ClockClose_3.Post w0 r) := by
  have hS := St.start w0
  unfold ClockClose_3.f at h
  refine calls_enter (n := 31) (args := [.pointer (some ⟨bf_0, 0, none⟩), .pointer (some ⟨bf_1, 0, none⟩)]) (fn := Try.f21) rfl rfl rfl rfl ?_
  show WE _ _ _ _ [(0, .pointer (some ⟨bf_0, 0, none⟩)), (1, .pointer (some ⟨bf_1, 0, none⟩))] _
  refine we_seq fun K1 hK1 => ?_
  refine we_region [(0, 0)] rfl ?_
  refine ge_batch [0] (ans := []) (vs := [(2, .int .i64 0)]) (l := []) (by kernel_rfl) trivial ?_
  refine ge_nil fun a hF => hK1 _ _ ?_ a hF
  refine we_seq fun K2 hK2 => ?_
  refine we_draws (by kernel_rfl) [(0, 0), (1, 0), (2, 0), (3, 0), (4, 0), (5, 0), (6, 0), (7, 0)] (by kernel_rfl) ?_
  have hS1 := hS.drew
  refine ge_batch [0] (ans := [.val (.slice Af_0 lf_0.length cf_0)]) (vs := [(7, .slice Af_0 lf_0.length cf_0)]) (l := [.loaded ⟨bf_0, 0, none⟩ (.slice Af_0 lf_0.length cf_0)]) (by kernel_rfl) ⟨hS1.glob hBf_0 rfl, trivial⟩ ?_
  rcases hx1 : lf_0[0]? with _ | e1
  · rw [hx1] at h; cases h
  rw [hx1] at h
  simp only [] at h
  refine ge_index (d := 8) (ty := 0) (t := 26) (el := 3) (sz := 1) (m := lf_0.length) (c := cf_0) (x := (.tmp 7)) (y := (.const (.int .i64 0))) (A := Af_0) (k' := .i64) (j := 0) (jn := 0) (b0 := blkOf Af_0) (o0 := offOf Af_0) (by kernel_rfl) (by kernel_rfl) (by kernel_rfl) (by kernel_rfl) (by kernel_rfl) ((hS1.rd hRf_0).eqSome (pos_of_get hx1)) rfl (lt_of_get hx1) ?_
  refine ge_batch [2, 3] (ans := [.val (.int .i64 e1), .val (.slice Af_0 lf_0.length cf_0)]) (vs := [(10, .slice Af_0 lf_0.length cf_0), (9, .int .i64 e1)]) (l := [.loaded ⟨blkOf Af_0, offOf Af_0 + 0 * 1, none⟩ (.int .i64 e1), .loaded ⟨bf_0, 0, none⟩ (.slice Af_0 lf_0.length cf_0)]) (by kernel_rfl) ⟨RdL.cell (j := 0) (hS1.rd hRf_0) hx1 rfl, hS1.glob hBf_0 rfl, trivial⟩ ?_
  refine ge_index (d := 11) (ty := 0) (t := 26) (el := 3) (sz := 1) (m := lf_0.length) (c := cf_0) (x := (.tmp 10)) (y := (.const (.int .i64 0))) (A := Af_0) (k' := .i64) (j := 0) (jn := 0) (b0 := blkOf Af_0) (o0 := offOf Af_0) (by kernel_rfl) (by kernel_rfl) (by kernel_rfl) (by kernel_rfl) (by kernel_rfl) ((hS1.rd hRf_0).eqSome (pos_of_get hx1)) rfl (lt_of_get hx1) ?_
  refine ge_batch [5, 6, 7] (ans := [.val (.int .i64 e1)]) (vs := [(4, .int .i64 e1), (3, .int .i64 e1), (12, .int .i64 e1)]) (l := [.loaded ⟨blkOf Af_0, offOf Af_0 + 0 * 1, none⟩ (.int .i64 e1)]) (by kernel_rfl) ⟨RdL.cell (j := 0) (hS1.rd hRf_0) hx1 rfl, trivial⟩ ?_
  refine ge_nil fun a hF => hK2 _ _ ?_ a hF
  refine we_seq fun K3 hK3 => ?_
  refine we_seq fun K4 hK4 => ?_
  refine we_region [(0, 0), (1, 0), (2, 0), (3, 0), (4, 0)] rfl ?_
  refine ge_batch [0, 1] (ans := [.val (.slice Af_0 lf_0.length cf_0), .val (.int .i64 xf_1)]) (vs := [(14, .int .i64 xf_1), (13, .slice Af_0 lf_0.length cf_0)]) (l := [.loaded ⟨bf_0, 0, none⟩ (.slice Af_0 lf_0.length cf_0), .loaded ⟨bf_1, 0, none⟩ (.int .i64 xf_1)]) (by kernel_rfl) ⟨hS1.glob hBf_0 rfl, hS1.glob hBf_1 rfl, trivial⟩ ?_
  by_cases hc1 : 0 ≤ xf_1
  · rw [if_pos hc1] at h
    by_cases hc2 : ((xf_1).toNat) ≤ lf_0.length
    · rw [if_pos hc2] at h
      refine ge_part (d := 15) (ty := 26) (t := 26) (el := 3) (sz := 1) (m := lf_0.length) (c := cf_0) (lo := 0) (hi := ((xf_1).toNat)) (x := (.tmp 13)) (xl := none) (xh := some (.tmp 14)) (A := Af_0) (by kernel_rfl) (by kernel_rfl) rfl ⟨.i64, xf_1, by kernel_rfl, (Int.toNat_of_nonneg hc1).symm⟩ (by kernel_rfl) (by kernel_rfl) (by have f0 := hc2; have f1 := hLf_0; omega) (by have f0 := hc2; have f1 := hLf_0; omega) ?_
      refine ge_same (t := 15) (v := .slice (subA Af_0 cf_0 0 1) (((xf_1).toNat) - 0) (cf_0 - 0)) (v' := .slice (subA Af_0 cf_0 0 1) (((lf_0.take ((xf_1).toNat)).drop 0).length) (cf_0 - 0)) (by kernel_rfl) (by have f0 := hc2; have f1 := hLf_0; rw [show ((xf_1).toNat) - 0 = ((lf_0.take ((xf_1).toNat)).drop 0).length by simp only [List.length_drop, List.length_take]; omega]) ?_
      refine ge_batch [3, 4] (ans := []) (vs := [(17, .int .i64 0), (16, .int .i64 (((lf_0.take ((xf_1).toNat)).drop 0).length : Int))]) (l := []) (by kernel_rfl) trivial ?_
      refine ge_nil fun a hF => hK4 _ _ ?_ a hF
      refine we_block ?_
      rcases hq1 : iter (ClockClose_3.r0 lf_0 xf_1) K (e1, e1, 0) with _ | (⟨z5, z6⟩ | rr1)
      · rw [hq1] at h; cases h
      · rw [hq1] at h
        simp only [] at h
        refine we_iter (A := ClockClose_3.A0 K w0 bf_0 lf_0 Af_0 cf_0 bf_1 xf_1 hRf_0 hLf_0 hBf_0 hBf_1 e1 hx1 hc1 hc2) (B := ClockClose_3.B0 K w0 bf_0 lf_0 Af_0 cf_0 bf_1 xf_1 hRf_0 hLf_0 hBf_0 hBf_1 e1 hx1 hc1 hc2) hq1 (fun a hF => ⟨hS1, hF.weaken ⟨by kernel_rfl, by kernel_rfl, by kernel_rfl, by kernel_rfl, by kernel_rfl, trivial⟩⟩) (fun s o hf a w hA Q hQ => ClockClose_3_r0 K w0 bf_0 lf_0 Af_0 cf_0 bf_1 xf_1 hRf_0 hLf_0 hBf_0 hBf_1 e1 hx1 hc1 hc2 s o hf a w hA Q hQ) ?_
        rintro _ a w1 _ ⟨rfl, hS2, hF⟩
        replace hS2 : St w0 w1 [] := hS2
        refine hK3 [(3, .int .i64 z5), (4, .int .i64 z6)] w1 ?_ a hF
        refine we_seq fun K9 hK9 => ?_
        refine we_region [(0, 0), (1, 0), (2, 0), (3, 0)] rfl ?_
        refine ge_batch [0, 1, 2, 3] (ans := []) (vs := [(2, .int .i64 (IntKind.i64.wrap (z6 - z5))), (30, .int .i64 (IntKind.i64.wrap (z6 - z5))), (29, .int .i64 z5), (28, .int .i64 z6)]) (l := []) (by kernel_rfl) trivial ?_
        refine ge_nil fun a hF => hK9 _ _ ?_ a hF
        obtain rfl := Option.some.inj h
        exact we_ret (post_ret (rs := [.tmp 2]) (ans := []) (vs := [.int .i64 (IntKind.i64.wrap (z6 - z5))]) (l := []) rfl (by kernel_rfl) trivial ⟨rfl, hS2⟩)
      · rw [hq1] at h
        simp only [] at h
        refine we_iter (A := ClockClose_3.A0 K w0 bf_0 lf_0 Af_0 cf_0 bf_1 xf_1 hRf_0 hLf_0 hBf_0 hBf_1 e1 hx1 hc1 hc2) (B := ClockClose_3.B0 K w0 bf_0 lf_0 Af_0 cf_0 bf_1 xf_1 hRf_0 hLf_0 hBf_0 hBf_1 e1 hx1 hc1 hc2) hq1 (fun a hF => ⟨hS1, hF.weaken ⟨by kernel_rfl, by kernel_rfl, by kernel_rfl, by kernel_rfl, by kernel_rfl, trivial⟩⟩) (fun s o hf a w hA Q hQ => ClockClose_3_r0 K w0 bf_0 lf_0 Af_0 cf_0 bf_1 xf_1 hRf_0 hLf_0 hBf_0 hBf_1 e1 hx1 hc1 hc2 s o hf a w hA Q hQ) ?_
        rintro _ a w1 _ ⟨rfl, hb⟩
        obtain rfl := Option.some.inj h
        exact hb
    · rw [if_neg hc2] at h
      cases h
  · rw [if_neg hc1] at h
    cases h

/-! punctual/punctuallaw.ClockClose$2 -/
abbrev ClockClose_2.Post (w0 : World) (r : Int) (e : Ending) (w : World) : Prop := e = .returned (.int .i64 r) ∧ St w0 w []
def ClockClose_2.f (l0 : List Int) (x1 : Int) : Option Int :=
  if (l0.length : Int) = 0 then
    some 0
  else
    if 0 ≤ (Int.tmod x1 (l0.length : Int)) then
      match l0[(Int.tmod x1 (l0.length : Int)).toNat]? with
      | none => none
      | some e1 =>
        some e1
    else
      none
theorem ClockClose_2_ok (l0 : List Int) (A0 : Option Addr) (c0 : Nat) (x1 : Int) (w0 : World) (hR0 : RdL w0 A0 l0) (hL0 : l0.length ≤ c0) (r : Int) (h : ClockClose_2.f l0 x1 = some r) :
    Calls Try.prog 20 #[.slice A0 l0.length c0, .int .i64 x1] w0 (ClockClose_2.Post w0 r) := by
  have hS := St.start w0
  unfold ClockClose_2.f at h
  refine calls_enter (n := 15) (args := [.slice A0 l0.length c0, .int .i64 x1]) (fn := Try.f20) rfl rfl rfl rfl ?_
  show WE _ _ _ _ [(0, .slice A0 l0.length c0), (1, .int .i64 x1)] _
  refine we_seq fun K1 hK1 => ?_
  refine we_region [(0, 0)] rfl ?_
  refine ge_batch [0] (ans := []) (vs := [(4, .int .i64 0)]) (l := []) (by kernel_rfl) trivial ?_
  refine ge_nil fun a hF => hK1 _ _ ?_ a hF
  refine we_seq fun K2 hK2 => ?_
  refine we_seq fun K3 hK3 => ?_
  refine we_region [(0, 0), (1, 0), (2, 0)] rfl ?_
  refine ge_batch [0, 1, 2] (ans := []) (vs := [(7, .bool ((l0.length : Int) == 0)), (6, .int .i64 (l0.length : Int)), (5, .slice A0 l0.length c0)]) (l := []) (by kernel_rfl) trivial ?_
  refine ge_nil fun a hF => hK3 _ _ ?_ a hF
  by_cases hc1 : (l0.length : Int) = 0
  · rw [if_pos hc1] at h
    refine we_known (t := 7) (b := ((l0.length : Int) == 0)) (v := true) (by kernel_rfl) (beq_iff_eq.2 hc1) ?_
    refine we_true (by kernel_rfl) ?_
    refine we_seq fun K4 hK4 => ?_
    refine we_region [(0, 0)] rfl ?_
    refine ge_batch [0] (ans := []) (vs := [(4, .int .i64 0)]) (l := []) (by kernel_rfl) trivial ?_
    refine ge_nil fun a hF => hK4 _ _ ?_ a hF
    obtain rfl := Option.some.inj h
    exact we_ret (post_ret (rs := [.tmp 4]) (ans := []) (vs := [.int .i64 0]) (l := []) rfl (by kernel_rfl) trivial ⟨rfl, hS⟩)
  · rw [if_neg hc1] at h
    refine we_known (t := 7) (b := ((l0.length : Int) == 0)) (v := false) (by kernel_rfl) (beq_eq_false_iff_ne.2 hc1) ?_
    refine we_false (by kernel_rfl) ?_
    refine we_skip fun a hF => hK2 _ _ ?_ a hF
    refine we_seq fun K5 hK5 => ?_
    refine we_region [(0, 0), (1, 0), (2, 0), (3, 0), (4, 0), (5, 0), (6, 0), (7, 0)] rfl ?_
    refine ge_batch [0, 1, 2, 3] (ans := []) (vs := [(11, .int .i64 (l0.length : Int)), (10, .slice A0 l0.length c0), (9, .int .i64 x1), (8, .slice A0 l0.length c0)]) (l := []) (by kernel_rfl) trivial ?_
    refine ge_div (d := 12) (ty := 3) (op := .rem) (x := (.tmp 9)) (y := (.tmp 11)) (t := 3) (t2 := 3) (k := .i64) (p := x1) (q := (l0.length : Int)) (v := .int .i64 (Int.tmod x1 (l0.length : Int))) (by kernel_rfl) (by kernel_rfl) (by kernel_rfl) hc1 rfl ?_
    by_cases hc2 : 0 ≤ (Int.tmod x1 (l0.length : Int))
    · rw [if_pos hc2] at h
      rcases hx1 : l0[(Int.tmod x1 (l0.length : Int)).toNat]? with _ | e1
      · rw [hx1] at h; cases h
      rw [hx1] at h
      simp only [] at h
      refine ge_index (d := 13) (ty := 0) (t := 26) (el := 3) (sz := 1) (m := l0.length) (c := c0) (x := (.tmp 8)) (y := (.tmp 12)) (A := A0) (k' := .i64) (j := (Int.tmod x1 (l0.length : Int))) (jn := ((Int.tmod x1 (l0.length : Int)).toNat)) (b0 := blkOf A0) (o0 := offOf A0) (by kernel_rfl) (by kernel_rfl) (by kernel_rfl) (by kernel_rfl) (by kernel_rfl) ((hS.rd hR0).eqSome (pos_of_get hx1)) (Int.toNat_of_nonneg hc2).symm (lt_of_get hx1) ?_
      refine ge_batch [6, 7] (ans := [.val (.int .i64 e1)]) (vs := [(4, .int .i64 e1), (14, .int .i64 e1)]) (l := [.loaded ⟨blkOf A0, offOf A0 + ((Int.tmod x1 (l0.length : Int)).toNat) * 1, none⟩ (.int .i64 e1)]) (by kernel_rfl) ⟨RdL.cell (j := 0) (hS.rd hR0) hx1 rfl, trivial⟩ ?_
      refine ge_nil fun a hF => hK5 _ _ ?_ a hF
      obtain rfl := Option.some.inj h
      exact we_ret (post_ret (rs := [.tmp 4]) (ans := []) (vs := [.int .i64 e1]) (l := []) rfl (by kernel_rfl) trivial ⟨rfl, hS⟩)
    · rw [if_neg hc2] at h
      cases h

/-! punctual/punctuallaw.ClockClose$1 -/
abbrev ClockClose_1.Post (w0 : World) (r : Int) (e : Ending) (w : World) : Prop := e = .returned (.int .i64 r) ∧ St w0 w []
def ClockClose_1.f (x0 : Int) (x1 : Int) : Option Int :=
  if (IntKind.i64.wrap (x1 + 1)) = 0 then
    none
  else
    some (Int.tmod x0 (IntKind.i64.wrap (x1 + 1)))
theorem ClockClose_1_ok (x0 : Int) (x1 : Int) (w0 : World) (r : Int) (h : ClockClose_1.f x0 x1 = some r) :
    Calls Try.prog 19 #[.int .i64 x0, .int .i64 x1] w0 (ClockClose_1.Post w0 r) := by
  have hS := St.start w0
  unfold ClockClose_1.f at h
  refine calls_enter (n := 9) (args := [.int .i64 x0, .int .i64 x1]) (fn := Try.f19) rfl rfl rfl rfl ?_
  show WE _ _ _ _ [(0, .int .i64 x0), (1, .int .i64 x1)] _
  refine we_seq fun K1 hK1 => ?_
  refine we_region [(0, 0)] rfl ?_
  refine ge_batch [0] (ans := []) (vs := [(4, .int .i64 0)]) (l := []) (by kernel_rfl) trivial ?_
  refine ge_nil fun a hF => hK1 _ _ ?_ a hF
  refine we_seq fun K2 hK2 => ?_
  refine we_region [(0, 0), (1, 0), (2, 0), (3, 0), (4, 0)] rfl ?_
  refine ge_batch [0, 1, 2] (ans := []) (vs := [(7, .int .i64 (IntKind.i64.wrap (x1 + 1))), (6, .int .i64 x1), (5, .int .i64 x0)]) (l := []) (by kernel_rfl) trivial ?_
  by_cases hc1 : (IntKind.i64.wrap (x1 + 1)) = 0
  · rw [if_pos hc1] at h
    cases h
  · rw [if_neg hc1] at h
    refine ge_div (d := 8) (ty := 3) (op := .rem) (x := (.tmp 5)) (y := (.tmp 7)) (t := 3) (t2 := 3) (k := .i64) (p := x0) (q := (IntKind.i64.wrap (x1 + 1))) (v := .int .i64 (Int.tmod x0 (IntKind.i64.wrap (x1 + 1)))) (by kernel_rfl) (by kernel_rfl) (by kernel_rfl) hc1 rfl ?_
    refine ge_batch [4] (ans := []) (vs := [(4, .int .i64 (Int.tmod x0 (IntKind.i64.wrap (x1 + 1))))]) (l := []) (by kernel_rfl) trivial ?_
    refine ge_nil fun a hF => hK2 _ _ ?_ a hF
    obtain rfl := Option.some.inj h
    exact we_ret (post_ret (rs := [.tmp 4]) (ans := []) (vs := [.int .i64 (Int.tmod x0 (IntKind.i64.wrap (x1 + 1)))]) (l := []) rfl (by kernel_rfl) trivial ⟨rfl, hS⟩)

structure SFault where
  Code : Int
  At : Int
def SFault.eqb (x y : SFault) : Bool := ((x.Code == y.Code) && ((x.At == y.At) && true))
instance : Ok SFault := ⟨fun x => Ok.ok x.Code ∧ Ok.ok x.At ∧ True⟩
instance : Flat SFault := ⟨2, fun x => [.int .i64 x.Code, .int .i64 x.At], fun _ => rfl, fun _ => rfl, by decide⟩

/-! punctual/net.Round -/
abbrev net_Round.Post (w0 : World) (r : (List Int) × SFault) (e : Ending) (w : World) : Prop := ∃ (v0 : Value), e = .returned (.tuple #[v0, .agg #[.int .i64 r.2.Code, .int .i64 r.2.At]]) ∧ St w0 w [Own.of v0 3 r.1]
def net_Round.p0 (l0 : List (List Int)) (l2 : List Int) : Option (Unit ⊕ ((List Int) × SFault)) :=
    if (l0.length : Int) < 1 then
      some (.inr (([] : List Int), (⟨2, 0⟩ : SFault)))
    else
      if (l0.length : Int) > 10 then
        some (.inr (([] : List Int), (⟨2, 0⟩ : SFault)))
      else
        if (l2.length : Int) = (l0.length : Int) then
          some (.inl ())
        else
          some (.inr (([] : List Int), (⟨2, 0⟩ : SFault)))
def net_Round.p2 (l0 : List (List Int)) (l2 : List Int) (z1 : Int) (e1 : List Int) : Option (Bool ⊕ ((List Int) × SFault)) :=
    if (e1.length : Int) = (l0.length : Int) then
      match l2[(z1).toNat]? with
      | none => none
      | some e2 =>
        if e2 < (-1099511627776) then
          some (.inl true)
        else
          some (.inl (decide (e2 > 1099511627776)))
    else
      some (.inl true)
def net_Round.r1 (K : Nat) (l0 : List (List Int)) (x1 : Int) (l2 : List Int) : (List Int) × Int → Option (((List Int) × Int) ⊕ ((List Int) ⊕ ((List Int) × SFault)))
  | (m1, z1) =>
    if z1 < (l0.length : Int) then
      if 0 ≤ z1 then
        match l0[(z1).toNat]? with
        | none => none
        | some e1 =>
          match net_Round.p2 l0 l2 z1 e1 with
          | none => none
          | some (.inl q2) =>
            if q2 = true then
              some (.inr (.inr (([] : List Int), (⟨3, z1⟩ : SFault))))
            else
              match net_Middle.f K e1 x1 with
              | none => none
              | some r1 =>
                if r1.2 = 0 then
                  match l2[(z1).toNat]? with
                  | none => none
                  | some e3 =>
                    if m1.length < 17592186044416 then
                      some (.inl ((m1 ++ [IntKind.i64.wrap (r1.1 + e3)]), IntKind.i64.wrap (z1 + 1)))
                    else
                      none
                else
                  some (.inr (.inr (([] : List Int), (⟨r1.2, z1⟩ : SFault))))
          | some (.inr rr1) =>
            some (.inr (.inr rr1))
      else
        none
    else
      some (.inr (.inl m1))
def net_Round.f (K : Nat) (l0 : List (List Int)) (x1 : Int) (l2 : List Int) : Option ((List Int) × SFault) :=
  match net_Round.p0 l0 l2 with
  | none => none
  | some (.inl _) =>
    match iter (net_Round.r1 K l0 x1 l2) K (([] : List Int), 0) with
    | none => none
    | some (.inl m3) =>
      some (m3, (⟨0, 0⟩ : SFault))
    | some (.inr rr2) =>
      some rr2
  | some (.inr rr3) =>
    some rr3
abbrev net_Round.A0 (K : Nat) (w0 : World) (l0 : List (List Int)) (hd0 : List Hdr) (A0 : Option Addr) (c0 : Nat) (x1 : Int) (l2 : List Int) (A2 : Option Addr) (c2 : Nat) (hR0 : RdL w0 A0 hd0) (hL0 : l0.length ≤ c0) (hN0 : NestL w0 hd0 l0) (hR2 : RdL w0 A2 l2) (hL2 : l2.length ≤ c2) (b1 : Nat) : Unit → Act → World → Prop := fun (s : Unit) a w => St w0 w [Own.blk b1 (.cells #[.int .i64 0, .int .i64 0] 31 (0, 0))] ∧ Frm 80 a [(0, .slice A0 l0.length c0), (1, .int .i64 x1), (2, .slice A2 l2.length c2), (7, .pointer (some ⟨b1, 0, none⟩))]
abbrev net_Round.B0 (K : Nat) (w0 : World) (l0 : List (List Int)) (hd0 : List Hdr) (A0 : Option Addr) (c0 : Nat) (x1 : Int) (l2 : List Int) (A2 : Option Addr) (c2 : Nat) (hR0 : RdL w0 A0 hd0) (hL0 : l0.length ≤ c0) (hN0 : NestL w0 hd0 l0) (hR2 : RdL w0 A2 l2) (hL2 : l2.length ≤ c2) (b1 : Nat) : ((List Int) × SFault) → Exit → Act → World → Prop := Rets Try.prog Try.f22 (net_Round.Post w0)
theorem net_Round_p0 (K : Nat) (w0 : World) (l0 : List (List Int)) (hd0 : List Hdr) (A0 : Option Addr) (c0 : Nat) (x1 : Int) (l2 : List Int) (A2 : Option Addr) (c2 : Nat) (hR0 : RdL w0 A0 hd0) (hL0 : l0.length ≤ c0) (hN0 : NestL w0 hd0 l0) (hR2 : RdL w0 A2 l2) (hL2 : l2.length ≤ c2) (b1 : Nat) (o : Unit ⊕ ((List Int) × SFault)) (h : net_Round.p0 l0 l2 = some o) (w : World) (hS : St w0 w [Own.blk b1 (.cells #[.int .i64 0, .int .i64 0] 31 (0, 0))]) (Q : Exit → Act → World → Prop) (hQ : ∀ x a w, Outs (net_Round.A0 K w0 l0 hd0 A0 c0 x1 l2 A2 c2 hR0 hL0 hN0 hR2 hL2 b1) (net_Round.B0 K w0 l0 hd0 A0 c0 x1 l2 A2 c2 hR0 hL0 hN0 hR2 hL2 b1) o x a w → Q x a w) : WE Try.prog 80 (subF Try.f22 [1, 0]) Q [(0, .slice A0 l0.length c0), (1, .int .i64 x1), (2, .slice A2 l2.length c2), (6, .slice none 0 0), (7, .pointer (some ⟨b1, 0, none⟩))] w := by
  simp only [net_Round.p0] at h
  refine we_seq fun K3 hK3 => ?_
  refine we_region [(0, 0), (1, 0), (2, 0), (3, 0), (4, 0), (5, 0), (6, 0), (7, 0), (8, 0), (9, 0), (10, 0), (11, 0), (12, 0), (13, 0), (14, 0)] rfl ?_
  refine ge_batch [0, 1, 2, 3] (ans := []) (vs := [(16, .bool (decide ((l0.length : Int) < 1))), (15, .bool (decide ((l0.length : Int) < 1))), (14, .int .i64 (l0.length : Int)), (13, .slice A0 l0.length c0)]) (l := []) (by kernel_rfl) trivial ?_
  by_cases hc1 : (l0.length : Int) < 1
  · rw [if_pos hc1] at h
    refine ge_known (t := 16) (b := decide ((l0.length : Int) < 1)) (c := true) (by kernel_rfl) (decide_eq_true hc1) ?_
    refine ge_batch [4, 5, 6, 7, 8, 9, 10, 11, 12, 13, 14] (ans := []) (vs := [(27, .bool true), (26, undef), (25, undef), (24, undef), (23, undef), (22, undef), (21, .bool true), (20, .bool true), (19, undef), (18, undef), (17, undef)]) (l := []) (by kernel_rfl) trivial ?_
    refine ge_nil fun a hF => hK3 _ _ ?_ a hF
    refine we_true (by kernel_rfl) ?_
    refine we_seq fun K4 hK4 => ?_
    refine we_region [(0, 0), (1, 0), (2, 2)] rfl ?_
    refine ge_batch [0, 1] (ans := []) (vs := [(6, .slice none 0 0), (28, .agg #[.int .i64 2, .int .i64 0])]) (l := []) (by kernel_rfl) trivial ?_
    refine ge_set (b := b1) (j := 0) (cs := #[.int .i64 0, .int .i64 0]) (t := 31) (vs := [.int .i64 2, .int .i64 0]) hS (by kernel_rfl) rfl rfl fun w2 hS2 => ?_
    have hS3 := hS2.nc #[.int .i64 2, .int .i64 0] (by kernel_rfl)
    refine ge_nil fun a hF => hK4 _ _ ?_ a hF
    have hS4 := hS3.nil (α := Int) 3
    have hS5 := hS4.takeN 1
    obtain rfl := Option.some.inj h
    exact we_ret fun a hF => hQ _ _ _ (Outs.out nofun ⟨rfl, (post_ret (rs := [.tmp 6, .cell 7 31]) (ans := [.val (.int .i64 2), .val (.int .i64 0)]) (vs := [(.slice none 0 0), .agg #[.int .i64 2, .int .i64 0]]) (l := [.loaded ⟨b1, 0, none⟩ (.int .i64 2), .loaded ⟨b1, 1, none⟩ (.int .i64 0)]) rfl (by kernel_rfl) ⟨hS4.cell 1 rfl rfl, hS4.cell 1 rfl rfl, trivial⟩ ⟨(.slice none 0 0), rfl, hS5⟩) a hF⟩)
  · rw [if_neg hc1] at h
    refine ge_known (t := 16) (b := decide ((l0.length : Int) < 1)) (c := false) (by kernel_rfl) (decide_eq_false hc1) ?_
    refine ge_batch [4, 5, 6, 7, 8] (ans := []) (vs := [(21, .bool (decide ((l0.length : Int) > 10))), (20, .bool (decide ((l0.length : Int) > 10))), (19, .bool (decide ((l0.length : Int) > 10))), (18, .int .i64 (l0.length : Int)), (17, .slice A0 l0.length c0)]) (l := []) (by kernel_rfl) trivial ?_
    by_cases hc2 : (l0.length : Int) > 10
    · rw [if_pos hc2] at h
      refine ge_known (t := 21) (b := decide ((l0.length : Int) > 10)) (c := true) (by kernel_rfl) (decide_eq_true hc2) ?_
      refine ge_batch [9, 10, 11, 12, 13, 14] (ans := []) (vs := [(27, .bool true), (26, undef), (25, undef), (24, undef), (23, undef), (22, undef)]) (l := []) (by kernel_rfl) trivial ?_
      refine ge_nil fun a hF => hK3 _ _ ?_ a hF
      refine we_true (by kernel_rfl) ?_
      refine we_seq fun K5 hK5 => ?_
      refine we_region [(0, 0), (1, 0), (2, 2)] rfl ?_
      refine ge_batch [0, 1] (ans := []) (vs := [(6, .slice none 0 0), (28, .agg #[.int .i64 2, .int .i64 0])]) (l := []) (by kernel_rfl) trivial ?_
      refine ge_set (b := b1) (j := 0) (cs := #[.int .i64 0, .int .i64 0]) (t := 31) (vs := [.int .i64 2, .int .i64 0]) hS (by kernel_rfl) rfl rfl fun w3 hS6 => ?_
      have hS7 := hS6.nc #[.int .i64 2, .int .i64 0] (by kernel_rfl)
      refine ge_nil fun a hF => hK5 _ _ ?_ a hF
      have hS8 := hS7.nil (α := Int) 3
      have hS9 := hS8.takeN 1
      obtain rfl := Option.some.inj h
      exact we_ret fun a hF => hQ _ _ _ (Outs.out nofun ⟨rfl, (post_ret (rs := [.tmp 6, .cell 7 31]) (ans := [.val (.int .i64 2), .val (.int .i64 0)]) (vs := [(.slice none 0 0), .agg #[.int .i64 2, .int .i64 0]]) (l := [.loaded ⟨b1, 0, none⟩ (.int .i64 2), .loaded ⟨b1, 1, none⟩ (.int .i64 0)]) rfl (by kernel_rfl) ⟨hS8.cell 1 rfl rfl, hS8.cell 1 rfl rfl, trivial⟩ ⟨(.slice none 0 0), rfl, hS9⟩) a hF⟩)
    · rw [if_neg hc2] at h
      refine ge_known (t := 21) (b := decide ((l0.length : Int) > 10)) (c := false) (by kernel_rfl) (decide_eq_false hc2) ?_
      refine ge_batch [9, 10, 11, 12, 13, 14] (ans := []) (vs := [(27, .bool ((l2.length : Int) != (l0.length : Int))), (26, .bool ((l2.length : Int) != (l0.length : Int))), (25, .int .i64 (l0.length : Int)), (24, .slice A0 l0.length c0), (23, .int .i64 (l2.length : Int)), (22, .slice A2 l2.length c2)]) (l := []) (by kernel_rfl) trivial ?_
      refine ge_nil fun a hF => hK3 _ _ ?_ a hF
      by_cases hc3 : (l2.length : Int) = (l0.length : Int)
      · rw [if_pos hc3] at h
        refine we_known (t := 27) (b := ((l2.length : Int) != (l0.length : Int))) (v := false) (by kernel_rfl) (bne_eq_false_iff_eq.2 hc3) ?_
        refine we_false (by kernel_rfl) ?_
        obtain rfl := Option.some.inj h
        exact we_skip fun a hF => hQ _ _ _ (Outs.again ⟨hS, hF.weaken ⟨by kernel_rfl, by kernel_rfl, by kernel_rfl, by kernel_rfl, trivial⟩⟩)
      · rw [if_neg hc3] at h
        refine we_known (t := 27) (b := ((l2.length : Int) != (l0.length : Int))) (v := true) (by kernel_rfl) (bne_iff_ne.2 hc3) ?_
        refine we_true (by kernel_rfl) ?_
        refine we_seq fun K6 hK6 => ?_
        refine we_region [(0, 0), (1, 0), (2, 2)] rfl ?_
        refine ge_batch [0, 1] (ans := []) (vs := [(6, .slice none 0 0), (28, .agg #[.int .i64 2, .int .i64 0])]) (l := []) (by kernel_rfl) trivial ?_
        refine ge_set (b := b1) (j := 0) (cs := #[.int .i64 0, .int .i64 0]) (t := 31) (vs := [.int .i64 2, .int .i64 0]) hS (by kernel_rfl) rfl rfl fun w4 hS10 => ?_
        have hS11 := hS10.nc #[.int .i64 2, .int .i64 0] (by kernel_rfl)
        refine ge_nil fun a hF => hK6 _ _ ?_ a hF
        have hS12 := hS11.nil (α := Int) 3
        have hS13 := hS12.takeN 1
        obtain rfl := Option.some.inj h
        exact we_ret fun a hF => hQ _ _ _ (Outs.out nofun ⟨rfl, (post_ret (rs := [.tmp 6, .cell 7 31]) (ans := [.val (.int .i64 2), .val (.int .i64 0)]) (vs := [(.slice none 0 0), .agg #[.int .i64 2, .int .i64 0]]) (l := [.loaded ⟨b1, 0, none⟩ (.int .i64 2), .loaded ⟨b1, 1, none⟩ (.int .i64 0)]) rfl (by kernel_rfl) ⟨hS12.cell 1 rfl rfl, hS12.cell 1 rfl rfl, trivial⟩ ⟨(.slice none 0 0), rfl, hS13⟩) a hF⟩)
abbrev net_Round.A2 (K : Nat) (w0 : World) (l0 : List (List Int)) (hd0 : List Hdr) (A0 : Option Addr) (c0 : Nat) (x1 : Int) (l2 : List Int) (A2 : Option Addr) (c2 : Nat) (hR0 : RdL w0 A0 hd0) (hL0 : l0.length ≤ c0) (hN0 : NestL w0 hd0 l0) (hR2 : RdL w0 A2 l2) (hL2 : l2.length ≤ c2) (b1 : Nat) (m1 : List Int) (z1 : Int) (hc4 : z1 < (l0.length : Int)) (hc5 : 0 ≤ z1) (e1 : List Int) (hx2 : l0[(z1).toNat]? = some e1) (An1 : Option Addr) (cn1 : Nat) (hxn1 : hd0[(z1).toNat]? = some ⟨An1, e1.length, cn1⟩) (hRn1 : RdL w0 An1 e1) (hLn1 : e1.length ≤ cn1) (Z1 : Option Addr) (cz1 : Nat) : Bool → Act → World → Prop := fun (s : Bool) a w => St w0 w [Own.blk b1 (.cells #[.int .i64 0, .int .i64 0] 31 (0, 0)), Own.of (.slice Z1 m1.length cz1) 3 m1] ∧ Frm 80 a [(0, .slice A0 l0.length c0), (1, .int .i64 x1), (2, .slice A2 l2.length c2), (7, .pointer (some ⟨b1, 0, none⟩)), (8, (.slice Z1 m1.length cz1)), (9, .int .i64 z1), (10, .slice An1 e1.length cn1), (29, .slice A0 l0.length c0), (30, .int .i64 (l0.length : Int)), (31, .int .i64 z1), (54, .bool s)]
abbrev net_Round.B2 (K : Nat) (w0 : World) (l0 : List (List Int)) (hd0 : List Hdr) (A0 : Option Addr) (c0 : Nat) (x1 : Int) (l2 : List Int) (A2 : Option Addr) (c2 : Nat) (hR0 : RdL w0 A0 hd0) (hL0 : l0.length ≤ c0) (hN0 : NestL w0 hd0 l0) (hR2 : RdL w0 A2 l2) (hL2 : l2.length ≤ c2) (b1 : Nat) (m1 : List Int) (z1 : Int) (hc4 : z1 < (l0.length : Int)) (hc5 : 0 ≤ z1) (e1 : List Int) (hx2 : l0[(z1).toNat]? = some e1) (An1 : Option Addr) (cn1 : Nat) (hxn1 : hd0[(z1).toNat]? = some ⟨An1, e1.length, cn1⟩) (hRn1 : RdL w0 An1 e1) (hLn1 : e1.length ≤ cn1) (Z1 : Option Addr) (cz1 : Nat) : ((List Int) × SFault) → Exit → Act → World → Prop := Rets Try.prog Try.f22 (net_Round.Post w0)
theorem net_Round_p2 (K : Nat) (w0 : World) (l0 : List (List Int)) (hd0 : List Hdr) (A0 : Option Addr) (c0 : Nat) (x1 : Int) (l2 : List Int) (A2 : Option Addr) (c2 : Nat) (hR0 : RdL w0 A0 hd0) (hL0 : l0.length ≤ c0) (hN0 : NestL w0 hd0 l0) (hR2 : RdL w0 A2 l2) (hL2 : l2.length ≤ c2) (b1 : Nat) (m1 : List Int) (z1 : Int) (hc4 : z1 < (l0.length : Int)) (hc5 : 0 ≤ z1) (e1 : List Int) (hx2 : l0[(z1).toNat]? = some e1) (An1 : Option Addr) (cn1 : Nat) (hxn1 : hd0[(z1).toNat]? = some ⟨An1, e1.length, cn1⟩) (hRn1 : RdL w0 An1 e1) (hLn1 : e1.length ≤ cn1) (Z1 : Option Addr) (cz1 : Nat) (o : Bool ⊕ ((List Int) × SFault)) (h : net_Round.p2 l0 l2 z1 e1 = some o) (w : World) (hS : St w0 w [Own.blk b1 (.cells #[.int .i64 0, .int .i64 0] 31 (0, 0)), Own.of (.slice Z1 m1.length cz1) 3 m1]) (Q : Exit → Act → World → Prop) (hQ : ∀ x a w, Outs (net_Round.A2 K w0 l0 hd0 A0 c0 x1 l2 A2 c2 hR0 hL0 hN0 hR2 hL2 b1 m1 z1 hc4 hc5 e1 hx2 An1 cn1 hxn1 hRn1 hLn1 Z1 cz1) (net_Round.B2 K w0 l0 hd0 A0 c0 x1 l2 A2 c2 hR0 hL0 hN0 hR2 hL2 b1 m1 z1 hc4 hc5 e1 hx2 An1 cn1 hxn1 hRn1 hLn1 Z1 cz1) o x a w → Q x a w) : WE Try.prog 80 (subF Try.f22 [1, 1, 1, 0, 1, 0, 0, 1, 1, 0, 0, 1, 0, 0]) Q [(0, .slice A0 l0.length c0), (1, .int .i64 x1), (2, .slice A2 l2.length c2), (7, .pointer (some ⟨b1, 0, none⟩)), (8, (.slice Z1 m1.length cz1)), (9, .int .i64 z1), (10, .slice An1 e1.length cn1), (29, .slice A0 l0.length c0), (30, .int .i64 (l0.length : Int)), (31, .int .i64 z1), (32, .bool true), (33, .int .i64 z1), (34, .pointer (some ⟨blkOf A0, offOf A0 + (z1).toNat * 1, none⟩)), (35, .slice An1 e1.length cn1)] w := by
  simp only [net_Round.p2] at h
  refine we_region [(0, 0), (1, 0), (2, 0), (3, 0), (4, 0), (5, 0), (6, 0), (7, 0), (8, 0), (9, 0), (10, 0), (11, 0), (12, 0), (13, 0), (14, 0), (15, 0), (16, 0), (17, 0), (18, 0)] rfl ?_
  refine ge_batch [0, 1, 2, 3, 4, 5] (ans := []) (vs := [(41, .bool ((e1.length : Int) != (l0.length : Int))), (40, .bool ((e1.length : Int) != (l0.length : Int))), (39, .int .i64 (l0.length : Int)), (38, .slice A0 l0.length c0), (37, .int .i64 (e1.length : Int)), (36, .slice An1 e1.length cn1)]) (l := []) (by kernel_rfl) trivial ?_
  by_cases hc6 : (e1.length : Int) = (l0.length : Int)
  · rw [if_pos hc6] at h
    refine ge_known (t := 41) (b := ((e1.length : Int) != (l0.length : Int))) (c := false) (by kernel_rfl) (bne_eq_false_iff_eq.2 hc6) ?_
    refine ge_batch [6, 7] (ans := []) (vs := [(43, .int .i64 z1), (42, .slice A2 l2.length c2)]) (l := []) (by kernel_rfl) trivial ?_
    rcases hx3 : l2[(z1).toNat]? with _ | e2
    · rw [hx3] at h; cases h
    rw [hx3] at h
    simp only [] at h
    refine ge_index (d := 44) (ty := 0) (t := 26) (el := 3) (sz := 1) (m := l2.length) (c := c2) (x := (.tmp 42)) (y := (.tmp 43)) (A := A2) (k' := .i64) (j := z1) (jn := ((z1).toNat)) (b0 := blkOf A2) (o0 := offOf A2) (by kernel_rfl) (by kernel_rfl) (by kernel_rfl) (by kernel_rfl) (by kernel_rfl) ((hS.rd hR2).eqSome (pos_of_get hx3)) (Int.toNat_of_nonneg hc5).symm (lt_of_get hx3) ?_
    refine ge_batch [9, 10, 11, 12] (ans := [.val (.int .i64 e2)]) (vs := [(48, .bool (decide (e2 < (-1099511627776)))), (47, .bool (decide (e2 < (-1099511627776)))), (46, .bool (decide (e2 < (-1099511627776)))), (45, .int .i64 e2)]) (l := [.loaded ⟨blkOf A2, offOf A2 + ((z1).toNat) * 1, none⟩ (.int .i64 e2)]) (by kernel_rfl) ⟨RdL.cell (j := 0) (hS.rd hR2) hx3 rfl, trivial⟩ ?_
    by_cases hc7 : e2 < (-1099511627776)
    · rw [if_pos hc7] at h
      refine ge_known (t := 48) (b := decide (e2 < (-1099511627776))) (c := true) (by kernel_rfl) (decide_eq_true hc7) ?_
      refine ge_batch [13, 14, 15, 16, 17, 18] (ans := []) (vs := [(54, .bool true), (53, undef), (52, undef), (51, undef), (50, undef), (49, undef)]) (l := []) (by kernel_rfl) trivial ?_
      have hS17 := hS.bring 1 rfl
      have hS18 := hS17.bring 1 rfl
      obtain rfl := Option.some.inj h
      exact ge_nil fun a hF => hQ _ _ _ (Outs.again ⟨hS18, hF.weaken ⟨by kernel_rfl, by kernel_rfl, by kernel_rfl, by kernel_rfl, by kernel_rfl, by kernel_rfl, by kernel_rfl, by kernel_rfl, by kernel_rfl, by kernel_rfl, by kernel_rfl, trivial⟩⟩)
    · rw [if_neg hc7] at h
      refine ge_known (t := 48) (b := decide (e2 < (-1099511627776))) (c := false) (by kernel_rfl) (decide_eq_false hc7) ?_
      refine ge_batch [13, 14] (ans := []) (vs := [(50, .int .i64 z1), (49, .slice A2 l2.length c2)]) (l := []) (by kernel_rfl) trivial ?_
      refine ge_index (d := 51) (ty := 0) (t := 26) (el := 3) (sz := 1) (m := l2.length) (c := c2) (x := (.tmp 49)) (y := (.tmp 50)) (A := A2) (k' := .i64) (j := z1) (jn := ((z1).toNat)) (b0 := blkOf A2) (o0 := offOf A2) (by kernel_rfl) (by kernel_rfl) (by kernel_rfl) (by kernel_rfl) (by kernel_rfl) ((hS.rd hR2).eqSome (pos_of_get hx3)) (Int.toNat_of_nonneg hc5).symm (lt_of_get hx3) ?_
      refine ge_batch [16, 17, 18] (ans := [.val (.int .i64 e2)]) (vs := [(54, .bool (decide (e2 > 1099511627776))), (53, .bool (decide (e2 > 1099511627776))), (52, .int .i64 e2)]) (l := [.loaded ⟨blkOf A2, offOf A2 + ((z1).toNat) * 1, none⟩ (.int .i64 e2)]) (by kernel_rfl) ⟨RdL.cell (j := 0) (hS.rd hR2) hx3 rfl, trivial⟩ ?_
      have hS19 := hS.bring 1 rfl
      have hS20 := hS19.bring 1 rfl
      obtain rfl := Option.some.inj h
      exact ge_nil fun a hF => hQ _ _ _ (Outs.again ⟨hS20, hF.weaken ⟨by kernel_rfl, by kernel_rfl, by kernel_rfl, by kernel_rfl, by kernel_rfl, by kernel_rfl, by kernel_rfl, by kernel_rfl, by kernel_rfl, by kernel_rfl, by kernel_rfl, trivial⟩⟩)
  · rw [if_neg hc6] at h
    refine ge_known (t := 41) (b := ((e1.length : Int) != (l0.length : Int))) (c := true) (by kernel_rfl) (bne_iff_ne.2 hc6) ?_
    refine ge_batch [6, 7, 8, 9, 10, 11, 12, 13, 14, 15, 16, 17, 18] (ans := []) (vs := [(54, .bool true), (53, undef), (52, undef), (51, undef), (50, undef), (49, undef), (48, .bool true), (47, .bool true), (46, undef), (45, undef), (44, undef), (43, undef), (42, undef)]) (l := []) (by kernel_rfl) trivial ?_
    have hS21 := hS.bring 1 rfl
    have hS22 := hS21.bring 1 rfl
    obtain rfl := Option.some.inj h
    exact ge_nil fun a hF => hQ _ _ _ (Outs.again ⟨hS22, hF.weaken ⟨by kernel_rfl, by kernel_rfl, by kernel_rfl, by kernel_rfl, by kernel_rfl, by kernel_rfl, by kernel_rfl, by kernel_rfl, by kernel_rfl, by kernel_rfl, by kernel_rfl, trivial⟩⟩)
abbrev net_Round.A1 (K : Nat) (w0 : World) (l0 : List (List Int)) (hd0 : List Hdr) (A0 : Option Addr) (c0 : Nat) (x1 : Int) (l2 : List Int) (A2 : Option Addr) (c2 : Nat) (hR0 : RdL w0 A0 hd0) (hL0 : l0.length ≤ c0) (hN0 : NestL w0 hd0 l0) (hR2 : RdL w0 A2 l2) (hL2 : l2.length ≤ c2) (b1 : Nat) : ((List Int) × Int) → Act → World → Prop := fun (s : (List Int) × Int) a w => ∃ (v1 : Value), St w0 w [Own.blk b1 (.cells #[.int .i64 0, .int .i64 0] 31 (0, 0)), Own.of v1 3 s.1] ∧ Frm 80 a [(0, .slice A0 l0.length c0), (1, .int .i64 x1), (2, .slice A2 l2.length c2), (7, .pointer (some ⟨b1, 0, none⟩)), (8, v1), (29, .slice A0 l0.length c0), (30, .int .i64 (l0.length : Int)), (31, .int .i64 s.2)]
abbrev net_Round.B1 (K : Nat) (w0 : World) (l0 : List (List Int)) (hd0 : List Hdr) (A0 : Option Addr) (c0 : Nat) (x1 : Int) (l2 : List Int) (A2 : Option Addr) (c2 : Nat) (hR0 : RdL w0 A0 hd0) (hL0 : l0.length ≤ c0) (hN0 : NestL w0 hd0 l0) (hR2 : RdL w0 A2 l2) (hL2 : l2.length ≤ c2) (b1 : Nat) : ((List Int) ⊕ ((List Int) × SFault)) → Exit → Act → World → Prop := Exits 0 (fun (s : (List Int)) a w => ∃ (v2 : Value), St w0 w [Own.blk b1 (.cells #[.int .i64 0, .int .i64 0] 31 (0, 0)), Own.of v2 3 s] ∧ Frm 80 a [(7, .pointer (some ⟨b1, 0, none⟩)), (8, v2)]) (Rets Try.prog Try.f22 (net_Round.Post w0))
theorem net_Round_r1 (K : Nat) (w0 : World) (l0 : List (List Int)) (hd0 : List Hdr) (A0 : Option Addr) (c0 : Nat) (x1 : Int) (l2 : List Int) (A2 : Option Addr) (c2 : Nat) (hR0 : RdL w0 A0 hd0) (hL0 : l0.length ≤ c0) (hN0 : NestL w0 hd0 l0) (hR2 : RdL w0 A2 l2) (hL2 : l2.length ≤ c2) (b1 : Nat) (s : (List Int) × Int) (o : ((List Int) × Int) ⊕ ((List Int) ⊕ ((List Int) × SFault))) (h : net_Round.r1 K l0 x1 l2 s = some o) (a : Act) (w : World) (hA : net_Round.A1 K w0 l0 hd0 A0 c0 x1 l2 A2 c2 hR0 hL0 hN0 hR2 hL2 b1 s a w) (Q : Exit → Act → World → Prop) (hQ : ∀ x a w, Outs (net_Round.A1 K w0 l0 hd0 A0 c0 x1 l2 A2 c2 hR0 hL0 hN0 hR2 hL2 b1) (net_Round.B1 K w0 l0 hd0 A0 c0 x1 l2 A2 c2 hR0 hL0 hN0 hR2 hL2 b1) o x a w → Q x a w) : (subF Try.f22 [1, 1, 1, 0, 1, 0, 0]).wp Try.prog Q a w := by
  obtain ⟨m1, z1⟩ := s
  obtain ⟨v1, hS, hF⟩ := hA
  replace hS : St w0 w [Own.blk b1 (.cells #[.int .i64 0, .int .i64 0] 31 (0, 0)), Own.of v1 3 m1] := hS
  simp only [net_Round.r1] at h
  refine (?_ : WE Try.prog 80 (subF Try.f22 [1, 1, 1, 0, 1, 0, 0]) Q [(0, .slice A0 l0.length c0), (1, .int .i64 x1), (2, .slice A2 l2.length c2), (7, .pointer (some ⟨b1, 0, none⟩)), (8, v1), (29, .slice A0 l0.length c0), (30, .int .i64 (l0.length : Int)), (31, .int .i64 z1)] w) a hF
  clear hF a
  refine we_seq fun K10 hK10 => ?_
  refine we_region [(0, 0)] rfl ?_
  refine ge_batch [0] (ans := []) (vs := [(32, .bool (decide (z1 < (l0.length : Int))))]) (l := []) (by kernel_rfl) trivial ?_
  refine ge_nil fun a hF => hK10 _ _ ?_ a hF
  refine we_seq fun K11 hK11 => ?_
  by_cases hc4 : z1 < (l0.length : Int)
  · rw [if_pos hc4] at h
    refine we_known (t := 32) (b := decide (z1 < (l0.length : Int))) (v := true) (by kernel_rfl) (decide_eq_true hc4) ?_
    refine we_true (by kernel_rfl) ?_
    refine we_skip fun a hF => hK11 _ _ ?_ a hF
    refine we_seq fun K12 hK12 => ?_
    refine we_block ?_
    refine we_seq fun K13 hK13 => ?_
    refine we_region [(0, 0), (1, 0), (2, 0), (3, 0), (4, 0)] rfl ?_
    refine ge_batch [0] (ans := []) (vs := [(33, .int .i64 z1)]) (l := []) (by kernel_rfl) trivial ?_
    by_cases hc5 : 0 ≤ z1
    · rw [if_pos hc5] at h
      rcases hx2 : l0[(z1).toNat]? with _ | e1
      · rw [hx2] at h; cases h
      rw [hx2] at h
      simp only [] at h
      obtain ⟨An1, cn1, hxn1, hRn1, hLn1⟩ := hN0.get hx2
      refine ge_index (d := 34) (ty := 0) (t := 51) (el := 26) (sz := 1) (m := l0.length) (c := c0) (x := (.tmp 29)) (y := (.tmp 31)) (A := A0) (k' := .i64) (j := z1) (jn := ((z1).toNat)) (b0 := blkOf A0) (o0 := offOf A0) (by kernel_rfl) (by kernel_rfl) (by kernel_rfl) (by kernel_rfl) (by kernel_rfl) ((hS.rd hR0).eqSome (pos_of_get hxn1)) (Int.toNat_of_nonneg hc5).symm (lt_of_get hx2) ?_
      refine ge_batch [2, 3, 4] (ans := [.val (.slice An1 e1.length cn1)]) (vs := [(10, .slice An1 e1.length cn1), (9, .int .i64 z1), (35, .slice An1 e1.length cn1)]) (l := [.loaded ⟨blkOf A0, offOf A0 + ((z1).toNat) * 1, none⟩ (.slice An1 e1.length cn1)]) (by kernel_rfl) ⟨RdL.cell (j := 0) (hS.rd hR0) hxn1 rfl, trivial⟩ ?_
      refine ge_nil fun a hF => hK13 _ _ ?_ a hF
      refine we_seq fun K14 hK14 => ?_
      refine we_seq fun K15 hK15 => ?_
      obtain ⟨Z1, cz1, rfl⟩ := hS.open 1 rfl
      rcases hq2 : net_Round.p2 l0 l2 z1 e1 with _ | (q2 | rr1)
      · rw [hq2] at h; cases h
      · rw [hq2] at h
        simp only [] at h
        refine we_keep (e' := [(0, .slice A0 l0.length c0), (1, .int .i64 x1), (2, .slice A2 l2.length c2), (7, .pointer (some ⟨b1, 0, none⟩)), (8, (.slice Z1 m1.length cz1)), (9, .int .i64 z1), (10, .slice An1 e1.length cn1), (29, .slice A0 l0.length c0), (30, .int .i64 (l0.length : Int)), (31, .int .i64 z1), (32, .bool true), (33, .int .i64 z1), (34, .pointer (some ⟨blkOf A0, offOf A0 + (z1).toNat * 1, none⟩)), (35, .slice An1 e1.length cn1)]) ⟨by kernel_rfl, by kernel_rfl, by kernel_rfl, by kernel_rfl, by kernel_rfl, by kernel_rfl, by kernel_rfl, by kernel_rfl, by kernel_rfl, by kernel_rfl, by kernel_rfl, by kernel_rfl, by kernel_rfl, by kernel_rfl, trivial⟩ (net_Round_p2 K w0 l0 hd0 A0 c0 x1 l2 A2 c2 hR0 hL0 hN0 hR2 hL2 b1 m1 z1 hc4 hc5 e1 hx2 An1 cn1 hxn1 hRn1 hLn1 Z1 cz1 _ hq2 _ hS _ ?_)
        rintro _ a w6 ⟨rfl, hS23, hF⟩
        replace hS23 : St w0 w6 [Own.blk b1 (.cells #[.int .i64 0, .int .i64 0] 31 (0, 0)), Own.of (.slice Z1 m1.length cz1) 3 m1] := hS23
        refine hK15 [(0, .slice A0 l0.length c0), (1, .int .i64 x1), (2, .slice A2 l2.length c2), (7, .pointer (some ⟨b1, 0, none⟩)), (8, (.slice Z1 m1.length cz1)), (9, .int .i64 z1), (10, .slice An1 e1.length cn1), (29, .slice A0 l0.length c0), (30, .int .i64 (l0.length : Int)), (31, .int .i64 z1), (54, .bool q2)] w6 ?_ a hF
        by_cases hc8 : q2 = true
        · rw [if_pos hc8] at h
          refine we_known (t := 54) (b := q2) (v := true) (by kernel_rfl) hc8 ?_
          refine we_true (by kernel_rfl) ?_
          refine we_seq fun K16 hK16 => ?_
          refine we_region [(0, 0), (1, 0), (2, 0), (3, 2)] rfl ?_
          refine ge_batch [0, 1, 2] (ans := []) (vs := [(6, .slice none 0 0), (56, .agg #[.int .i64 3, .int .i64 z1]), (55, .int .i64 z1)]) (l := []) (by kernel_rfl) trivial ?_
          refine ge_set (b := b1) (j := 0) (cs := #[.int .i64 0, .int .i64 0]) (t := 31) (vs := [.int .i64 3, .int .i64 z1]) hS23 (by kernel_rfl) rfl rfl fun w7 hS24 => ?_
          have hS25 := hS24.nc #[.int .i64 3, .int .i64 z1] (by kernel_rfl)
          refine ge_nil fun a hF => hK16 _ _ ?_ a hF
          have hS26 := hS25.nil (α := Int) 3
          have hS27 := hS26.takeN 1
          obtain rfl := Option.some.inj h
          exact we_ret fun a hF => hQ _ _ _ (Outs.out nofun (Exits.on ⟨rfl, (post_ret (rs := [.tmp 6, .cell 7 31]) (ans := [.val (.int .i64 3), .val (.int .i64 z1)]) (vs := [(.slice none 0 0), .agg #[.int .i64 3, .int .i64 z1]]) (l := [.loaded ⟨b1, 0, none⟩ (.int .i64 3), .loaded ⟨b1, 1, none⟩ (.int .i64 z1)]) rfl (by kernel_rfl) ⟨hS26.cell 1 rfl rfl, hS26.cell 1 rfl rfl, trivial⟩ ⟨(.slice none 0 0), rfl, hS27⟩) a hF⟩))
        · rw [if_neg hc8] at h
          refine we_known (t := 54) (b := q2) (v := false) (by kernel_rfl) (Bool.eq_false_iff.2 hc8) ?_
          refine we_false (by kernel_rfl) ?_
          refine we_skip fun a hF => hK14 _ _ ?_ a hF
          refine we_seq fun K17 hK17 => ?_
          refine we_region [(0, 0), (1, 0), (2, 1), (3, 0), (4, 0), (5, 0), (6, 0), (7, 0)] rfl ?_
          rcases hq3 : net_Middle.f K e1 x1 with _ | r1
          · rw [hq3] at h; cases h
          rw [hq3] at h
          simp only [] at h
          refine ge_batch [0, 1] (ans := []) (vs := [(59, .int .i64 x1), (58, .slice An1 e1.length cn1)]) (l := []) (by kernel_rfl) trivial ?_
          refine ge_call (d := some 60) (f := 28) (args := #[.slice An1 e1.length cn1, .int .i64 x1]) (by kernel_rfl) (net_Middle_ok K e1 An1 cn1 x1 _ (hS23.rd hRn1) hLn1 _ hq3) ?_
          rintro _ w8 ⟨rfl, hS28⟩
          refine ⟨_, rfl, hS28.below, ?_⟩
          have hS29 := hS23.call hS28
          refine ge_batch [3, 4, 5, 6, 7] (ans := []) (vs := [(12, .int .i64 r1.2), (11, .int .i64 r1.1), (62, .int .i64 r1.2), (61, .int .i64 r1.1), (57, .tuple #[.int .i64 r1.1, .int .i64 r1.2])]) (l := []) (by kernel_rfl) trivial ?_
          refine ge_nil fun a hF => hK17 _ _ ?_ a hF
          refine we_seq fun K18 hK18 => ?_
          refine we_seq fun K19 hK19 => ?_
          refine we_region [(0, 0), (1, 0)] rfl ?_
          refine ge_batch [0, 1] (ans := []) (vs := [(64, .bool (r1.2 != 0)), (63, .int .i64 r1.2)]) (l := []) (by kernel_rfl) trivial ?_
          refine ge_nil fun a hF => hK19 _ _ ?_ a hF
          by_cases hc9 : r1.2 = 0
          · rw [if_pos hc9] at h
            refine we_known (t := 64) (b := (r1.2 != 0)) (v := false) (by kernel_rfl) (bne_eq_false_iff_eq.2 hc9) ?_
            refine we_false (by kernel_rfl) ?_
            refine we_skip fun a hF => hK18 _ _ ?_ a hF
            refine we_region [(0, 0), (1, 0), (2, 0), (3, 0), (4, 0), (5, 0), (6, 0), (7, 1), (8, 2), (9, 0)] rfl ?_
            refine ge_batch [0, 1, 2, 3] (ans := []) (vs := [(71, .int .i64 z1), (70, .slice A2 l2.length c2), (69, .int .i64 r1.1), (68, (.slice Z1 m1.length cz1))]) (l := []) (by kernel_rfl) trivial ?_
            rcases hx4 : l2[(z1).toNat]? with _ | e3
            · rw [hx4] at h; cases h
            rw [hx4] at h
            simp only [] at h
            refine ge_index (d := 72) (ty := 0) (t := 26) (el := 3) (sz := 1) (m := l2.length) (c := c2) (x := (.tmp 70)) (y := (.tmp 71)) (A := A2) (k' := .i64) (j := z1) (jn := ((z1).toNat)) (b0 := blkOf A2) (o0 := offOf A2) (by kernel_rfl) (by kernel_rfl) (by kernel_rfl) (by kernel_rfl) (by kernel_rfl) ((hS29.rd hR2).eqSome (pos_of_get hx4)) (Int.toNat_of_nonneg hc5).symm (lt_of_get hx4) ?_
            refine ge_batch [5, 6] (ans := [.val (.int .i64 e3)]) (vs := [(74, .int .i64 (IntKind.i64.wrap (r1.1 + e3))), (73, .int .i64 e3)]) (l := [.loaded ⟨blkOf A2, offOf A2 + ((z1).toNat) * 1, none⟩ (.int .i64 e3)]) (by kernel_rfl) ⟨RdL.cell (j := 0) (hS29.rd hR2) hx4 rfl, trivial⟩ ?_
            refine ge_new (d := some 75) (o := .cells #[.int .i64 (IntKind.i64.wrap (r1.1 + e3))] 3) (v := fun b => .slice (some ⟨b, 0, none⟩) 1 1) hS29 (fun b => by kernel_rfl) fun b2 w9 hx5 hS30 => ?_
            have hS31 := hS30.bring 2 rfl
            by_cases hc10 : m1.length < 17592186044416
            · rw [if_pos hc10] at h
              refine ge_append (α := Int) (m := 0) (d := 76) (t := 26) (el := 3) (bytes := 8) (c1 := 1) (b1 := b2) (x := (.tmp 68)) (y := (.tmp 75)) (ty := 26) (v := (.slice Z1 m1.length cz1)) (z := .int .i64 0) (l := m1) (u := (IntKind.i64.wrap (r1.1 + e3))) (by kernel_rfl) (by kernel_rfl) (by kernel_rfl) (by kernel_rfl) (by kernel_rfl) rfl hS31 rfl (by omega) fun v3 w10 hS32 => ?_
              refine ge_batch [9] (ans := []) (vs := [(8, v3)]) (l := []) (by kernel_rfl) trivial ?_
              refine ge_nil fun a hF => hK12 _ _ ?_ a hF
              refine we_region [(0, 0), (1, 0)] rfl ?_
              refine ge_batch [0, 1] (ans := []) (vs := [(31, .int .i64 (IntKind.i64.wrap (z1 + 1))), (77, .int .i64 (IntKind.i64.wrap (z1 + 1)))]) (l := []) (by kernel_rfl) trivial ?_
              have hS33 := hS32.bring 1 rfl
              obtain rfl := Option.some.inj h
              exact ge_nil fun a hF => hQ _ _ _ (Outs.again ⟨v3, hS33, hF.weaken ⟨by kernel_rfl, by kernel_rfl, by kernel_rfl, by kernel_rfl, by kernel_rfl, by kernel_rfl, by kernel_rfl, by kernel_rfl, trivial⟩⟩)
            · rw [if_neg hc10] at h
              cases h
          · rw [if_neg hc9] at h
            refine we_known (t := 64) (b := (r1.2 != 0)) (v := true) (by kernel_rfl) (bne_iff_ne.2 hc9) ?_
            refine we_true (by kernel_rfl) ?_
            refine we_seq fun K20 hK20 => ?_
            refine we_region [(0, 0), (1, 0), (2, 0), (3, 0), (4, 2)] rfl ?_
            refine ge_batch [0, 1, 2, 3] (ans := []) (vs := [(6, .slice none 0 0), (67, .agg #[.int .i64 r1.2, .int .i64 z1]), (66, .int .i64 z1), (65, .int .i64 r1.2)]) (l := []) (by kernel_rfl) trivial ?_
            refine ge_set (b := b1) (j := 0) (cs := #[.int .i64 0, .int .i64 0]) (t := 31) (vs := [.int .i64 r1.2, .int .i64 z1]) hS29 (by kernel_rfl) rfl rfl fun w11 hS34 => ?_
            have hS35 := hS34.nc #[.int .i64 r1.2, .int .i64 z1] (by kernel_rfl)
            refine ge_nil fun a hF => hK20 _ _ ?_ a hF
            have hS36 := hS35.nil (α := Int) 3
            have hS37 := hS36.takeN 1
            obtain rfl := Option.some.inj h
            exact we_ret fun a hF => hQ _ _ _ (Outs.out nofun (Exits.on ⟨rfl, (post_ret (rs := [.tmp 6, .cell 7 31]) (ans := [.val (.int .i64 r1.2), .val (.int .i64 z1)]) (vs := [(.slice none 0 0), .agg #[.int .i64 r1.2, .int .i64 z1]]) (l := [.loaded ⟨b1, 0, none⟩ (.int .i64 r1.2), .loaded ⟨b1, 1, none⟩ (.int .i64 z1)]) rfl (by kernel_rfl) ⟨hS36.cell 1 rfl rfl, hS36.cell 1 rfl rfl, trivial⟩ ⟨(.slice none 0 0), rfl, hS37⟩) a hF⟩))
      · rw [hq2] at h
        simp only [] at h
        refine we_keep (e' := [(0, .slice A0 l0.length c0), (1, .int .i64 x1), (2, .slice A2 l2.length c2), (7, .pointer (some ⟨b1, 0, none⟩)), (8, (.slice Z1 m1.length cz1)), (9, .int .i64 z1), (10, .slice An1 e1.length cn1), (29, .slice A0 l0.length c0), (30, .int .i64 (l0.length : Int)), (31, .int .i64 z1), (32, .bool true), (33, .int .i64 z1), (34, .pointer (some ⟨blkOf A0, offOf A0 + (z1).toNat * 1, none⟩)), (35, .slice An1 e1.length cn1)]) ⟨by kernel_rfl, by kernel_rfl, by kernel_rfl, by kernel_rfl, by kernel_rfl, by kernel_rfl, by kernel_rfl, by kernel_rfl, by kernel_rfl, by kernel_rfl, by kernel_rfl, by kernel_rfl, by kernel_rfl, by kernel_rfl, trivial⟩ (net_Round_p2 K w0 l0 hd0 A0 c0 x1 l2 A2 c2 hR0 hL0 hN0 hR2 hL2 b1 m1 z1 hc4 hc5 e1 hx2 An1 cn1 hxn1 hRn1 hLn1 Z1 cz1 _ hq2 _ hS _ ?_)
        rintro _ a w1 ⟨_, rfl, hb⟩
        obtain rfl := Option.some.inj h
        exact hQ _ _ _ (Outs.out nofun (Exits.on ⟨rfl, hb⟩))
    · rw [if_neg hc5] at h
      cases h
  · rw [if_neg hc4] at h
    refine we_known (t := 32) (b := decide (z1 < (l0.length : Int))) (v := false) (by kernel_rfl) (decide_eq_false hc4) ?_
    refine we_false (by kernel_rfl) ?_
    have hS38 := hS.bring 1 rfl
    have hS39 := hS38.bring 1 rfl
    obtain rfl := Option.some.inj h
    exact we_exit fun a hF => hQ _ _ _ (Outs.out nofun (Exits.here ⟨v1, hS39, hF.weaken ⟨by kernel_rfl, by kernel_rfl, trivial⟩⟩))
theorem net_Round_ok (K : Nat) (l0 : List (List Int)) (hd0 : List Hdr) (A0 : Option Addr) (c0 : Nat) (x1 : Int) (l2 : List Int) (A2 : Option Addr) (c2 : Nat) (w0 : World) (hR0 : RdL w0 A0 hd0) (hL0 : l0.length ≤ c0) (hN0 : NestL w0 hd0 l0) (hR2 : RdL w0 A2 l2) (hL2 : l2.length ≤ c2) (r : (List Int) × SFault) (h : net_Round.f K l0 x1 l2 = some r) :
    Calls Try.prog 22 #[.slice A0 l0.length c0, .int .i64 x1, .slice A2 l2.length c2] w0 (net_Round.Post w0 r) := by
  have hS := St.start w0
  unfold net_Round.f at h
  refine calls_enter (n := 80) (args := [.slice A0 l0.length c0, .int .i64 x1, .slice A2 l2.length c2]) (fn := Try.f22) rfl rfl rfl rfl ?_
  show WE _ _ _ _ [(0, .slice A0 l0.length c0), (1, .int .i64 x1), (2, .slice A2 l2.length c2)] _
  refine we_seq fun K1 hK1 => ?_
  refine we_region [(0, 0), (1, 1)] rfl ?_
  refine ge_batch [0] (ans := []) (vs := [(6, .slice none 0 0)]) (l := []) (by kernel_rfl) trivial ?_
  refine ge_new (d := some 7) (o := .cells #[.int .i64 0, .int .i64 0] 31) (v := fun b => .pointer (some ⟨b, 0, none⟩)) hS (fun b => by kernel_rfl) fun b1 w1 hx1 hS1 => ?_
  refine ge_nil fun a hF => hK1 _ _ ?_ a hF
  refine we_seq fun K2 hK2 => ?_
  rcases hq1 : net_Round.p0 l0 l2 with _ | (_ | rr3)
  · rw [hq1] at h; cases h
  · rw [hq1] at h
    simp only [] at h
    refine we_keep (e' := [(0, .slice A0 l0.length c0), (1, .int .i64 x1), (2, .slice A2 l2.length c2), (6, .slice none 0 0), (7, .pointer (some ⟨b1, 0, none⟩))]) ⟨by kernel_rfl, by kernel_rfl, by kernel_rfl, by kernel_rfl, by kernel_rfl, trivial⟩ (net_Round_p0 K w0 l0 hd0 A0 c0 x1 l2 A2 c2 hR0 hL0 hN0 hR2 hL2 b1 _ hq1 _ hS1 _ ?_)
    rintro _ a w5 ⟨rfl, hS14, hF⟩
    replace hS14 : St w0 w5 [Own.blk b1 (.cells #[.int .i64 0, .int .i64 0] 31 (0, 0))] := hS14
    refine hK2 [(0, .slice A0 l0.length c0), (1, .int .i64 x1), (2, .slice A2 l2.length c2), (7, .pointer (some ⟨b1, 0, none⟩))] w5 ?_ a hF
    refine we_seq fun K7 hK7 => ?_
    refine we_region [(0, 0)] rfl ?_
    refine ge_batch [0] (ans := []) (vs := [(8, .slice none 0 0)]) (l := []) (by kernel_rfl) trivial ?_
    refine ge_nil fun a hF => hK7 _ _ ?_ a hF
    refine we_seq fun K8 hK8 => ?_
    refine we_seq fun K9 hK9 => ?_
    refine we_region [(0, 0), (1, 0), (2, 0)] rfl ?_
    refine ge_batch [0, 1, 2] (ans := []) (vs := [(31, .int .i64 0), (30, .int .i64 (l0.length : Int)), (29, .slice A0 l0.length c0)]) (l := []) (by kernel_rfl) trivial ?_
    refine ge_nil fun a hF => hK9 _ _ ?_ a hF
    refine we_block ?_
    have hS15 := hS14.nil (α := Int) 3
    have hS16 := hS15.bring 1 rfl
    rcases hq4 : iter (net_Round.r1 K l0 x1 l2) K (([] : List Int), 0) with _ | (m3 | rr2)
    · rw [hq4] at h; cases h
    · rw [hq4] at h
      simp only [] at h
      refine we_iter (A := net_Round.A1 K w0 l0 hd0 A0 c0 x1 l2 A2 c2 hR0 hL0 hN0 hR2 hL2 b1) (B := net_Round.B1 K w0 l0 hd0 A0 c0 x1 l2 A2 c2 hR0 hL0 hN0 hR2 hL2 b1) hq4 (fun a hF => ⟨(.slice none 0 0), hS16, hF.weaken ⟨by kernel_rfl, by kernel_rfl, by kernel_rfl, by kernel_rfl, by kernel_rfl, by kernel_rfl, by kernel_rfl, by kernel_rfl, trivial⟩⟩) (fun s o hf a w hA Q hQ => net_Round_r1 K w0 l0 hd0 A0 c0 x1 l2 A2 c2 hR0 hL0 hN0 hR2 hL2 b1 s o hf a w hA Q hQ) ?_
      rintro _ a w12 _ ⟨rfl, v4, hS40, hF⟩
      replace hS40 : St w0 w12 [Own.blk b1 (.cells #[.int .i64 0, .int .i64 0] 31 (0, 0)), Own.of v4 3 m3] := hS40
      refine hK8 [(7, .pointer (some ⟨b1, 0, none⟩)), (8, v4)] w12 ?_ a hF
      refine we_seq fun K21 hK21 => ?_
      refine we_region [(0, 0), (1, 0), (2, 0), (3, 2)] rfl ?_
      refine ge_batch [0, 1, 2] (ans := []) (vs := [(6, v4), (79, .agg #[.int .i64 0, .int .i64 0]), (78, v4)]) (l := []) (by kernel_rfl) trivial ?_
      refine ge_set (b := b1) (j := 0) (cs := #[.int .i64 0, .int .i64 0]) (t := 31) (vs := [.int .i64 0, .int .i64 0]) hS40 (by kernel_rfl) rfl rfl fun w13 hS41 => ?_
      have hS42 := hS41.nc #[.int .i64 0, .int .i64 0] (by kernel_rfl)
      refine ge_nil fun a hF => hK21 _ _ ?_ a hF
      have hS43 := hS42.bring 1 rfl
      have hS44 := hS43.takeN 1
      obtain rfl := Option.some.inj h
      exact we_ret (post_ret (rs := [.tmp 6, .cell 7 31]) (ans := [.val (.int .i64 0), .val (.int .i64 0)]) (vs := [v4, .agg #[.int .i64 0, .int .i64 0]]) (l := [.loaded ⟨b1, 0, none⟩ (.int .i64 0), .loaded ⟨b1, 1, none⟩ (.int .i64 0)]) rfl (by kernel_rfl) ⟨hS42.cell 0 rfl rfl, hS42.cell 0 rfl rfl, trivial⟩ ⟨v4, rfl, hS44⟩)
    · rw [hq4] at h
      simp only [] at h
      refine we_iter (A := net_Round.A1 K w0 l0 hd0 A0 c0 x1 l2 A2 c2 hR0 hL0 hN0 hR2 hL2 b1) (B := net_Round.B1 K w0 l0 hd0 A0 c0 x1 l2 A2 c2 hR0 hL0 hN0 hR2 hL2 b1) hq4 (fun a hF => ⟨(.slice none 0 0), hS16, hF.weaken ⟨by kernel_rfl, by kernel_rfl, by kernel_rfl, by kernel_rfl, by kernel_rfl, by kernel_rfl, by kernel_rfl, by kernel_rfl, trivial⟩⟩) (fun s o hf a w hA Q hQ => net_Round_r1 K w0 l0 hd0 A0 c0 x1 l2 A2 c2 hR0 hL0 hN0 hR2 hL2 b1 s o hf a w hA Q hQ) ?_
      rintro _ a w1 _ ⟨rfl, hb⟩
      obtain rfl := Option.some.inj h
      exact hb
  · rw [hq1] at h
    simp only [] at h
    refine we_keep (e' := [(0, .slice A0 l0.length c0), (1, .int .i64 x1), (2, .slice A2 l2.length c2), (6, .slice none 0 0), (7, .pointer (some ⟨b1, 0, none⟩))]) ⟨by kernel_rfl, by kernel_rfl, by kernel_rfl, by kernel_rfl, by kernel_rfl, trivial⟩ (net_Round_p0 K w0 l0 hd0 A0 c0 x1 l2 A2 c2 hR0 hL0 hN0 hR2 hL2 b1 _ hq1 _ hS1 _ ?_)
    rintro _ a w1 ⟨_, rfl, hb⟩
    obtain rfl := Option.some.inj h
    exact hb
end Go.Proofs.Ytchcdadpahakfaa.GV
