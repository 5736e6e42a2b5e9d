/- Walks of single functions, written by a program of this work. -/
import Derived.Test.YtchcdadpahakfaaGv33
import Derived.Test.YtchcdadpahakfaaProg
import Derived.Test.YtchcdadpahakfaaGSortI
import Derived.Test.YtchcdadpahakfaaGv43
namespace Go.Proofs.Ytchcdadpahakfaa.GV
open Go Go.RowKit
set_option linter.unusedVariables false
set_option linter.unusedSimpArgs false
set_option maxRecDepth 100000

/-! punctual/net.Middle -/
abbrev net_Middle.Post (w0 : World) (r : Int × Int) (e : Ending) (w : World) : Prop := e = .returned (.tuple #[.int .i64 r.1, .int .i64 r.2]) ∧ St w0 w []
def net_Middle.p0 (l0 : List Int) : Option (Unit ⊕ (Int × Int)) :=
    if (l0.length : Int) < 1 then
      some (.inr (0, 2))
    else
      if (l0.length : Int) > 10 then
        some (.inr (0, 2))
      else
        some (.inl ())
def net_Middle.r1 (l0 : List Int) : Nat → Option (Nat ⊕ (Unit ⊕ (Int × Int)))
  | i1 =>
    if (i1 : Int) < (l0.length : Int) then
      match l0[i1]? with
      | none => none
      | some e1 =>
        if e1 < (-1099511627776) then
          some (.inr (.inr (0, 3)))
        else
          if e1 > 1099511627776 then
            some (.inr (.inr (0, 3)))
          else
            some (.inl (i1 + 1))
    else
      some (.inr (.inl ()))
def net_Middle.f (K : Nat) (l0 : List Int) (x1 : Int) : Option (Int × Int) :=
  match net_Middle.p0 l0 with
  | none => none
  | some (.inl _) =>
    match iter (net_Middle.r1 l0) K 0 with
    | none => none
    | some (.inl _) =>
      if x1 < 0 then
        some (0, 13)
      else
        if x1 > 10 then
          some (0, 13)
        else
          if (l0.length : Int) < (IntKind.i64.wrap ((IntKind.i64.wrap (3 * x1)) + 1)) then
            some (0, 13)
          else
            if 1 ≤ l0.length then
              if l0.length ≤ 1000 then
                if 0 ≤ x1 then
                  match (List.mergeSort l0 (fun x y => decide (x ≤ y)))[(x1).toNat]? with
                  | none => none
                  | some e2 =>
                    if 0 ≤ (IntKind.i64.wrap ((IntKind.i64.wrap (((List.mergeSort l0 (fun x y => decide (x ≤ y))).length : Int) - 1)) - x1)) then
                      match (List.mergeSort l0 (fun x y => decide (x ≤ y)))[(IntKind.i64.wrap ((IntKind.i64.wrap (((List.mergeSort l0 (fun x y => decide (x ≤ y))).length : Int) - 1)) - x1)).toNat]? with
                      | none => none
                      | some e3 =>
                        some (Int.fdiv (IntKind.i64.wrap (e2 + e3)) (2 ^ 1), 0)
                    else
                      none
                else
                  none
              else
                none
            else
              none
    | some (.inr rr1) =>
      some rr1
  | some (.inr rr2) =>
    some rr2
abbrev net_Middle.A0 (K : Nat) (w0 : World) (l0 : List Int) (A0 : Option Addr) (c0 : Nat) (x1 : Int) (hR0 : RdL w0 A0 l0) (hL0 : l0.length ≤ c0) : Unit → Act → World → Prop := fun (s : Unit) a w => St w0 w [] ∧ Frm 61 a [(0, .slice A0 l0.length c0), (1, .int .i64 x1)]
abbrev net_Middle.B0 (K : Nat) (w0 : World) (l0 : List Int) (A0 : Option Addr) (c0 : Nat) (x1 : Int) (hR0 : RdL w0 A0 l0) (hL0 : l0.length ≤ c0) : (Int × Int) → Exit → Act → World → Prop := Rets Try.prog Try.f28 (net_Middle.Post w0)
theorem net_Middle_p0 (K : Nat) (w0 : World) (l0 : List Int) (A0 : Option Addr) (c0 : Nat) (x1 : Int) (hR0 : RdL w0 A0 l0) (hL0 : l0.length ≤ c0) (o : Unit ⊕ (Int × Int)) (h : net_Middle.p0 l0 = some o) (w : World) (hS : St w0 w []) (Q : Exit → Act → World → Prop) (hQ : ∀ x a w, Outs (net_Middle.A0 K w0 l0 A0 c0 x1 hR0 hL0) (net_Middle.B0 K w0 l0 A0 c0 x1 hR0 hL0) o x a w → Q x a w) : WE Try.prog 61 (subF Try.f28 [1, 0]) Q [(0, .slice A0 l0.length c0), (1, .int .i64 x1), (4, .int .i64 0), (5, .int .i64 0)] w := by
  simp only [net_Middle.p0] at h
  refine we_seq fun K3 hK3 => ?_
  refine we_region [(0, 0), (1, 0), (2, 0), (3, 0), (4, 0), (5, 0), (6, 0), (7, 0)] rfl ?_
  refine ge_batch [0, 1, 2, 3] (ans := []) (vs := [(12, .bool (decide ((l0.length : Int) < 1))), (11, .bool (decide ((l0.length : Int) < 1))), (10, .int .i64 (l0.length : Int)), (9, .slice A0 l0.length c0)]) (l := []) (by kernel_rfl) trivial ?_
  by_cases hc1 : (l0.length : Int) < 1
  · rw [if_pos hc1] at h
    refine ge_known (t := 12) (b := decide ((l0.length : Int) < 1)) (c := true) (by kernel_rfl) (decide_eq_true hc1) ?_
    refine ge_batch [4, 5, 6, 7] (ans := []) (vs := [(16, .bool true), (15, undef), (14, undef), (13, undef)]) (l := []) (by kernel_rfl) trivial ?_
    refine ge_nil fun a hF => hK3 _ _ ?_ a hF
    refine we_true (by kernel_rfl) ?_
    refine we_seq fun K4 hK4 => ?_
    refine we_region [(0, 0), (1, 0)] rfl ?_
    refine ge_batch [0, 1] (ans := []) (vs := [(5, .int .i64 2), (4, .int .i64 0)]) (l := []) (by kernel_rfl) trivial ?_
    refine ge_nil fun a hF => hK4 _ _ ?_ a hF
    obtain rfl := Option.some.inj h
    exact we_ret fun a hF => hQ _ _ _ (Outs.out nofun ⟨rfl, (post_ret (rs := [.tmp 4, .tmp 5]) (ans := []) (vs := [.int .i64 0, .int .i64 2]) (l := []) rfl (by kernel_rfl) trivial ⟨rfl, hS⟩) a hF⟩)
  · rw [if_neg hc1] at h
    refine ge_known (t := 12) (b := decide ((l0.length : Int) < 1)) (c := false) (by kernel_rfl) (decide_eq_false hc1) ?_
    refine ge_batch [4, 5, 6, 7] (ans := []) (vs := [(16, .bool (decide ((l0.length : Int) > 10))), (15, .bool (decide ((l0.length : Int) > 10))), (14, .int .i64 (l0.length : Int)), (13, .slice A0 l0.length c0)]) (l := []) (by kernel_rfl) trivial ?_
    refine ge_nil fun a hF => hK3 _ _ ?_ a hF
    by_cases hc2 : (l0.length : Int) > 10
    · rw [if_pos hc2] at h
      refine we_known (t := 16) (b := decide ((l0.length : Int) > 10)) (v := true) (by kernel_rfl) (decide_eq_true hc2) ?_
      refine we_true (by kernel_rfl) ?_
      refine we_seq fun K5 hK5 => ?_
      refine we_region [(0, 0), (1, 0)] rfl ?_
      refine ge_batch [0, 1] (ans := []) (vs := [(5, .int .i64 2), (4, .int .i64 0)]) (l := []) (by kernel_rfl) trivial ?_
      refine ge_nil fun a hF => hK5 _ _ ?_ a hF
      obtain rfl := Option.some.inj h
      exact we_ret fun a hF => hQ _ _ _ (Outs.out nofun ⟨rfl, (post_ret (rs := [.tmp 4, .tmp 5]) (ans := []) (vs := [.int .i64 0, .int .i64 2]) (l := []) rfl (by kernel_rfl) trivial ⟨rfl, hS⟩) a hF⟩)
    · rw [if_neg hc2] at h
      refine we_known (t := 16) (b := decide ((l0.length : Int) > 10)) (v := false) (by kernel_rfl) (decide_eq_false hc2) ?_
      refine we_false (by kernel_rfl) ?_
      obtain rfl := Option.some.inj h
      exact we_skip fun a hF => hQ _ _ _ (Outs.again ⟨hS, hF.weaken ⟨by kernel_rfl, by kernel_rfl, trivial⟩⟩)
abbrev net_Middle.A1 (K : Nat) (w0 : World) (l0 : List Int) (A0 : Option Addr) (c0 : Nat) (x1 : Int) (hR0 : RdL w0 A0 l0) (hL0 : l0.length ≤ c0) : Nat → Act → World → Prop := fun (s : Nat) a w => St w0 w [] ∧ Frm 61 a [(0, .slice A0 l0.length c0), (1, .int .i64 x1), (17, .slice A0 l0.length c0), (18, .int .i64 (l0.length : Int)), (19, .int .i64 (s : Int))]
abbrev net_Middle.B1 (K : Nat) (w0 : World) (l0 : List Int) (A0 : Option Addr) (c0 : Nat) (x1 : Int) (hR0 : RdL w0 A0 l0) (hL0 : l0.length ≤ c0) : (Unit ⊕ (Int × Int)) → Exit → Act → World → Prop := Exits 0 (fun (s : Unit) a w => St w0 w [] ∧ Frm 61 a [(0, .slice A0 l0.length c0), (1, .int .i64 x1)]) (Rets Try.prog Try.f28 (net_Middle.Post w0))
theorem net_Middle_r1 (K : Nat) (w0 : World) (l0 : List Int) (A0 : Option Addr) (c0 : Nat) (x1 : Int) (hR0 : RdL w0 A0 l0) (hL0 : l0.length ≤ c0) (s : Nat) (o : Nat ⊕ (Unit ⊕ (Int × Int))) (h : net_Middle.r1 l0 s = some o) (a : Act) (w : World) (hA : net_Middle.A1 K w0 l0 A0 c0 x1 hR0 hL0 s a w) (Q : Exit → Act → World → Prop) (hQ : ∀ x a w, Outs (net_Middle.A1 K w0 l0 A0 c0 x1 hR0 hL0) (net_Middle.B1 K w0 l0 A0 c0 x1 hR0 hL0) o x a w → Q x a w) : (subF Try.f28 [1, 1, 0, 1, 0, 0]).wp Try.prog Q a w := by
  obtain ⟨i1, hs⟩ : ∃ z, z = s := ⟨s, rfl⟩
  subst hs
  obtain ⟨hS, hF⟩ := hA
  replace hS : St w0 w [] := hS
  simp only [net_Middle.r1] at h
  refine (?_ : WE Try.prog 61 (subF Try.f28 [1, 1, 0, 1, 0, 0]) Q [(0, .slice A0 l0.length c0), (1, .int .i64 x1), (17, .slice A0 l0.length c0), (18, .int .i64 (l0.length : Int)), (19, .int .i64 (i1 : Int))] w) a hF
  clear hF a
  refine we_seq fun K8 hK8 => ?_
  refine we_region [(0, 0)] rfl ?_
  refine ge_batch [0] (ans := []) (vs := [(20, .bool (decide ((i1 : Int) < (l0.length : Int))))]) (l := []) (by kernel_rfl) trivial ?_
  refine ge_nil fun a hF => hK8 _ _ ?_ a hF
  refine we_seq fun K9 hK9 => ?_
  by_cases hc3 : (i1 : Int) < (l0.length : Int)
  · rw [if_pos hc3] at h
    refine we_known (t := 20) (b := decide ((i1 : Int) < (l0.length : Int))) (v := true) (by kernel_rfl) (decide_eq_true hc3) ?_
    refine we_true (by kernel_rfl) ?_
    refine we_skip fun a hF => hK9 _ _ ?_ a hF
    refine we_seq fun K10 hK10 => ?_
    refine we_block ?_
    refine we_seq fun K11 hK11 => ?_
    refine we_region [(0, 0), (1, 0), (2, 0)] rfl ?_
    rcases hx1 : l0[i1]? with _ | e1
    · rw [hx1] at h; cases h
    rw [hx1] at h
    simp only [] at h
    refine ge_index (d := 21) (ty := 0) (t := 26) (el := 3) (sz := 1) (m := l0.length) (c := c0) (x := (.tmp 17)) (y := (.tmp 19)) (A := A0) (k' := .i64) (j := (i1 : Int)) (jn := i1) (b0 := blkOf A0) (o0 := offOf A0) (by kernel_rfl) (by kernel_rfl) (by kernel_rfl) (by kernel_rfl) (by kernel_rfl) ((hS.rd hR0).eqSome (pos_of_get hx1)) rfl (lt_of_get hx1) ?_
    refine ge_batch [1, 2] (ans := [.val (.int .i64 e1)]) (vs := [(7, .int .i64 e1), (22, .int .i64 e1)]) (l := [.loaded ⟨blkOf A0, offOf A0 + i1 * 1, none⟩ (.int .i64 e1)]) (by kernel_rfl) ⟨RdL.cell (j := 0) (hS.rd hR0) hx1 rfl, trivial⟩ ?_
    refine ge_nil fun a hF => hK11 _ _ ?_ a hF
    refine we_seq fun K12 hK12 => ?_
    refine we_region [(0, 0), (1, 0), (2, 0), (3, 0), (4, 0), (5, 0)] rfl ?_
    refine ge_batch [0, 1, 2] (ans := []) (vs := [(25, .bool (decide (e1 < (-1099511627776)))), (24, .bool (decide (e1 < (-1099511627776)))), (23, .int .i64 e1)]) (l := []) (by kernel_rfl) trivial ?_
    by_cases hc4 : e1 < (-1099511627776)
    · rw [if_pos hc4] at h
      refine ge_known (t := 25) (b := decide (e1 < (-1099511627776))) (c := true) (by kernel_rfl) (decide_eq_true hc4) ?_
      refine ge_batch [3, 4, 5] (ans := []) (vs := [(28, .bool true), (27, undef), (26, undef)]) (l := []) (by kernel_rfl) trivial ?_
      refine ge_nil fun a hF => hK12 _ _ ?_ a hF
      refine we_true (by kernel_rfl) ?_
      refine we_seq fun K13 hK13 => ?_
      refine we_region [(0, 0), (1, 0)] rfl ?_
      refine ge_batch [0, 1] (ans := []) (vs := [(5, .int .i64 3), (4, .int .i64 0)]) (l := []) (by kernel_rfl) trivial ?_
      refine ge_nil fun a hF => hK13 _ _ ?_ a hF
      obtain rfl := Option.some.inj h
      exact we_ret fun a hF => hQ _ _ _ (Outs.out nofun (Exits.on ⟨rfl, (post_ret (rs := [.tmp 4, .tmp 5]) (ans := []) (vs := [.int .i64 0, .int .i64 3]) (l := []) rfl (by kernel_rfl) trivial ⟨rfl, hS⟩) a hF⟩))
    · rw [if_neg hc4] at h
      refine ge_known (t := 25) (b := decide (e1 < (-1099511627776))) (c := false) (by kernel_rfl) (decide_eq_false hc4) ?_
      refine ge_batch [3, 4, 5] (ans := []) (vs := [(28, .bool (decide (e1 > 1099511627776))), (27, .bool (decide (e1 > 1099511627776))), (26, .int .i64 e1)]) (l := []) (by kernel_rfl) trivial ?_
      refine ge_nil fun a hF => hK12 _ _ ?_ a hF
      by_cases hc5 : e1 > 1099511627776
      · rw [if_pos hc5] at h
        refine we_known (t := 28) (b := decide (e1 > 1099511627776)) (v := true) (by kernel_rfl) (decide_eq_true hc5) ?_
        refine we_true (by kernel_rfl) ?_
        refine we_seq fun K14 hK14 => ?_
        refine we_region [(0, 0), (1, 0)] rfl ?_
        refine ge_batch [0, 1] (ans := []) (vs := [(5, .int .i64 3), (4, .int .i64 0)]) (l := []) (by kernel_rfl) trivial ?_
        refine ge_nil fun a hF => hK14 _ _ ?_ a hF
        obtain rfl := Option.some.inj h
        exact we_ret fun a hF => hQ _ _ _ (Outs.out nofun (Exits.on ⟨rfl, (post_ret (rs := [.tmp 4, .tmp 5]) (ans := []) (vs := [.int .i64 0, .int .i64 3]) (l := []) rfl (by kernel_rfl) trivial ⟨rfl, hS⟩) a hF⟩))
      · rw [if_neg hc5] at h
        refine we_known (t := 28) (b := decide (e1 > 1099511627776)) (v := false) (by kernel_rfl) (decide_eq_false hc5) ?_
        refine we_false (by kernel_rfl) ?_
        refine we_skip fun a hF => hK10 _ _ ?_ a hF
        refine we_region [(0, 0), (1, 0)] rfl ?_
        refine ge_addn (d := 29) (ty := 3) (x := (.tmp 19)) (y := (.const (.int .i64 1))) (t := 3) (t2 := 3) (k := .i64) (m := i1) (by kernel_rfl) (by kernel_rfl) (by kernel_rfl) (by have h0 := hR0.small; omega) ?_
        refine ge_batch [1] (ans := []) (vs := [(19, .int .i64 ((i1 + 1 : Nat) : Int))]) (l := []) (by kernel_rfl) trivial ?_
        obtain rfl := Option.some.inj h
        exact ge_nil fun a hF => hQ _ _ _ (Outs.again ⟨hS, hF.weaken ⟨by kernel_rfl, by kernel_rfl, by kernel_rfl, by kernel_rfl, by kernel_rfl, trivial⟩⟩)
  · rw [if_neg hc3] at h
    refine we_known (t := 20) (b := decide ((i1 : Int) < (l0.length : Int))) (v := false) (by kernel_rfl) (decide_eq_false hc3) ?_
    refine we_false (by kernel_rfl) ?_
    obtain rfl := Option.some.inj h
    exact we_exit fun a hF => hQ _ _ _ (Outs.out nofun (Exits.here ⟨hS, hF.weaken ⟨by kernel_rfl, by kernel_rfl, trivial⟩⟩))
theorem net_Middle_ok (K : Nat) (l0 : List Int) (A0 : Option Addr) (c0 : Nat) (x1 : Int) (w0 : World) (hR0 : RdL w0 A0 l0) (hL0 : l0.length ≤ c0) (r : Int × Int) (h : net_Middle.f K l0 x1 = some r) :
    Calls Try.prog 28 #[.slice A0 l0.length c0, .int .i64 x1] w0 (net_Middle.Post w0 r) := by
  have hS := St.start w0
  unfold net_Middle.f at h
  refine calls_enter (n := 61) (args := [.slice A0 l0.length c0, .int .i64 x1]) (fn := Try.f28) rfl rfl rfl rfl ?_
  show WE _ _ _ _ [(0, .slice A0 l0.length c0), (1, .int .i64 x1)] _
  refine we_seq fun K1 hK1 => ?_
  refine we_region [(0, 0), (1, 0)] rfl ?_
  refine ge_batch [0, 1] (ans := []) (vs := [(5, .int .i64 0), (4, .int .i64 0)]) (l := []) (by kernel_rfl) trivial ?_
  refine ge_nil fun a hF => hK1 _ _ ?_ a hF
  refine we_seq fun K2 hK2 => ?_
  rcases hq1 : net_Middle.p0 l0 with _ | (_ | rr2)
  · rw [hq1] at h; cases h
  · rw [hq1] at h
    simp only [] at h
    refine we_keep (e' := [(0, .slice A0 l0.length c0), (1, .int .i64 x1), (4, .int .i64 0), (5, .int .i64 0)]) ⟨by kernel_rfl, by kernel_rfl, by kernel_rfl, by kernel_rfl, trivial⟩ (net_Middle_p0 K w0 l0 A0 c0 x1 hR0 hL0 _ hq1 _ hS _ ?_)
    rintro _ a w1 ⟨rfl, hS1, hF⟩
    replace hS1 : St w0 w1 [] := hS1
    refine hK2 [(0, .slice A0 l0.length c0), (1, .int .i64 x1)] w1 ?_ a hF
    refine we_seq fun K6 hK6 => ?_
    refine we_seq fun K7 hK7 => ?_
    refine we_region [(0, 0), (1, 0), (2, 0)] rfl ?_
    refine ge_batch [0, 1, 2] (ans := []) (vs := [(19, .int .i64 0), (18, .int .i64 (l0.length : Int)), (17, .slice A0 l0.length c0)]) (l := []) (by kernel_rfl) trivial ?_
    refine ge_nil fun a hF => hK7 _ _ ?_ a hF
    refine we_block ?_
    rcases hq2 : iter (net_Middle.r1 l0) K 0 with _ | (_ | rr1)
    · rw [hq2] at h; cases h
    · rw [hq2] at h
      simp only [] at h
      refine we_iter (A := net_Middle.A1 K w0 l0 A0 c0 x1 hR0 hL0) (B := net_Middle.B1 K w0 l0 A0 c0 x1 hR0 hL0) hq2 (fun a hF => ⟨hS1, hF.weaken ⟨by kernel_rfl, by kernel_rfl, by kernel_rfl, by kernel_rfl, by kernel_rfl, trivial⟩⟩) (fun s o hf a w hA Q hQ => net_Middle_r1 K w0 l0 A0 c0 x1 hR0 hL0 s o hf a w hA Q hQ) ?_
      rintro _ a w2 _ ⟨rfl, hS2, hF⟩
      replace hS2 : St w0 w2 [] := hS2
      refine hK6 [(0, .slice A0 l0.length c0), (1, .int .i64 x1)] w2 ?_ a hF
      refine we_seq fun K15 hK15 => ?_
      refine we_seq fun K16 hK16 => ?_
      refine we_region [(0, 0), (1, 0), (2, 0), (3, 0), (4, 0), (5, 0), (6, 0), (7, 0), (8, 0), (9, 0), (10, 0), (11, 0), (12, 0), (13, 0)] rfl ?_
      refine ge_batch [0, 1, 2] (ans := []) (vs := [(32, .bool (decide (x1 < 0))), (31, .bool (decide (x1 < 0))), (30, .int .i64 x1)]) (l := []) (by kernel_rfl) trivial ?_
      by_cases hc6 : x1 < 0
      · rw [if_pos hc6] at h
        refine ge_known (t := 32) (b := decide (x1 < 0)) (c := true) (by kernel_rfl) (decide_eq_true hc6) ?_
        refine ge_batch [3, 4, 5, 6, 7, 8, 9, 10, 11, 12, 13] (ans := []) (vs := [(43, .bool true), (42, undef), (41, undef), (40, undef), (39, undef), (38, undef), (37, undef), (36, .bool true), (35, .bool true), (34, undef), (33, undef)]) (l := []) (by kernel_rfl) trivial ?_
        refine ge_nil fun a hF => hK16 _ _ ?_ a hF
        refine we_true (by kernel_rfl) ?_
        refine we_seq fun K17 hK17 => ?_
        refine we_region [(0, 0), (1, 0)] rfl ?_
        refine ge_batch [0, 1] (ans := []) (vs := [(5, .int .i64 13), (4, .int .i64 0)]) (l := []) (by kernel_rfl) trivial ?_
        refine ge_nil fun a hF => hK17 _ _ ?_ a hF
        obtain rfl := Option.some.inj h
        exact we_ret (post_ret (rs := [.tmp 4, .tmp 5]) (ans := []) (vs := [.int .i64 0, .int .i64 13]) (l := []) rfl (by kernel_rfl) trivial ⟨rfl, hS2⟩)
      · rw [if_neg hc6] at h
        refine ge_known (t := 32) (b := decide (x1 < 0)) (c := false) (by kernel_rfl) (decide_eq_false hc6) ?_
        refine ge_batch [3, 4, 5, 6] (ans := []) (vs := [(36, .bool (decide (x1 > 10))), (35, .bool (decide (x1 > 10))), (34, .bool (decide (x1 > 10))), (33, .int .i64 x1)]) (l := []) (by kernel_rfl) trivial ?_
        by_cases hc7 : x1 > 10
        · rw [if_pos hc7] at h
          refine ge_known (t := 36) (b := decide (x1 > 10)) (c := true) (by kernel_rfl) (decide_eq_true hc7) ?_
          refine ge_batch [7, 8, 9, 10, 11, 12, 13] (ans := []) (vs := [(43, .bool true), (42, undef), (41, undef), (40, undef), (39, undef), (38, undef), (37, undef)]) (l := []) (by kernel_rfl) trivial ?_
          refine ge_nil fun a hF => hK16 _ _ ?_ a hF
          refine we_true (by kernel_rfl) ?_
          refine we_seq fun K18 hK18 => ?_
          refine we_region [(0, 0), (1, 0)] rfl ?_
          refine ge_batch [0, 1] (ans := []) (vs := [(5, .int .i64 13), (4, .int .i64 0)]) (l := []) (by kernel_rfl) trivial ?_
          refine ge_nil fun a hF => hK18 _ _ ?_ a hF
          obtain rfl := Option.some.inj h
          exact we_ret (post_ret (rs := [.tmp 4, .tmp 5]) (ans := []) (vs := [.int .i64 0, .int .i64 13]) (l := []) rfl (by kernel_rfl) trivial ⟨rfl, hS2⟩)
        · rw [if_neg hc7] at h
          refine ge_known (t := 36) (b := decide (x1 > 10)) (c := false) (by kernel_rfl) (decide_eq_false hc7) ?_
          refine ge_batch [7, 8, 9, 10, 11, 12, 13] (ans := []) (vs := [(43, .bool (decide ((l0.length : Int) < (IntKind.i64.wrap ((IntKind.i64.wrap (3 * x1)) + 1))))), (42, .bool (decide ((l0.length : Int) < (IntKind.i64.wrap ((IntKind.i64.wrap (3 * x1)) + 1))))), (41, .int .i64 (IntKind.i64.wrap ((IntKind.i64.wrap (3 * x1)) + 1))), (40, .int .i64 (IntKind.i64.wrap (3 * x1))), (39, .int .i64 x1), (38, .int .i64 (l0.length : Int)), (37, .slice A0 l0.length c0)]) (l := []) (by kernel_rfl) trivial ?_
          refine ge_nil fun a hF => hK16 _ _ ?_ a hF
          by_cases hc8 : (l0.length : Int) < (IntKind.i64.wrap ((IntKind.i64.wrap (3 * x1)) + 1))
          · rw [if_pos hc8] at h
            refine we_known (t := 43) (b := decide ((l0.length : Int) < (IntKind.i64.wrap ((IntKind.i64.wrap (3 * x1)) + 1)))) (v := true) (by kernel_rfl) (decide_eq_true hc8) ?_
            refine we_true (by kernel_rfl) ?_
            refine we_seq fun K19 hK19 => ?_
            refine we_region [(0, 0), (1, 0)] rfl ?_
            refine ge_batch [0, 1] (ans := []) (vs := [(5, .int .i64 13), (4, .int .i64 0)]) (l := []) (by kernel_rfl) trivial ?_
            refine ge_nil fun a hF => hK19 _ _ ?_ a hF
            obtain rfl := Option.some.inj h
            exact we_ret (post_ret (rs := [.tmp 4, .tmp 5]) (ans := []) (vs := [.int .i64 0, .int .i64 13]) (l := []) rfl (by kernel_rfl) trivial ⟨rfl, hS2⟩)
          · rw [if_neg hc8] at h
            refine we_known (t := 43) (b := decide ((l0.length : Int) < (IntKind.i64.wrap ((IntKind.i64.wrap (3 * x1)) + 1)))) (v := false) (by kernel_rfl) (decide_eq_false hc8) ?_
            refine we_false (by kernel_rfl) ?_
            refine we_skip fun a hF => hK15 _ _ ?_ a hF
            refine we_seq fun K20 hK20 => ?_
            refine we_region [(0, 0), (1, 1), (2, 1), (3, 0)] rfl ?_
            refine ge_batch [0] (ans := []) (vs := [(44, .slice A0 l0.length c0)]) (l := []) (by kernel_rfl) trivial ?_
            refine ge_call (d := some 45) (f := 47) (args := #[.slice A0 l0.length c0]) (by kernel_rfl) (values_ok A0 l0.length c0 _) ?_
            rintro _ w3 ⟨b1, rfl, hS3⟩
            refine ⟨_, rfl, hS3.below, ?_⟩
            have hS4 := hS2.call hS3
            by_cases hc9 : 1 ≤ l0.length
            · rw [if_pos hc9] at h
              by_cases hc10 : l0.length ≤ 1000
              · rw [if_pos hc10] at h
                refine ge_call (d := some 46) (f := 46) (args := #[.func (.func 64) #[] #[.pointer (some ⟨b1, 0, none⟩)]]) (by kernel_rfl) (sorted_ok b1 A0 c0 l0 _ (hS4.cell 0 rfl rfl) (hS4.rd hR0) (hL0) hc9 hc10) ?_
                rintro _ w4 ⟨v1, rfl, hS5⟩
                refine ⟨_, rfl, hS5.below, ?_⟩
                have hS6 := hS4.call hS5
                refine ge_batch [3] (ans := []) (vs := [(8, v1)]) (l := []) (by kernel_rfl) trivial ?_
                refine ge_nil fun a hF => hK20 _ _ ?_ a hF
                refine we_seq fun K21 hK21 => ?_
                refine we_draws (by kernel_rfl) [(0, 0), (1, 0), (2, 0), (3, 0), (4, 0), (5, 0), (6, 0), (7, 0), (8, 0), (9, 0), (10, 0), (11, 0), (12, 0), (13, 0), (14, 0), (15, 0)] (by kernel_rfl) ?_
                have hS7 := hS6.drew
                refine ge_batch [0, 1] (ans := []) (vs := [(48, .int .i64 x1), (47, v1)]) (l := []) (by kernel_rfl) trivial ?_
                obtain ⟨Z1, cz1, rfl⟩ := hS7.open 0 rfl
                by_cases hc11 : 0 ≤ x1
                · rw [if_pos hc11] at h
                  rcases hx2 : (List.mergeSort l0 (fun x y => decide (x ≤ y)))[(x1).toNat]? with _ | e2
                  · rw [hx2] at h; cases h
                  rw [hx2] at h
                  simp only [] at h
                  refine ge_index (d := 49) (ty := 0) (t := 26) (el := 3) (sz := 1) (m := (List.mergeSort l0 (fun x y => decide (x ≤ y))).length) (c := cz1) (x := (.tmp 47)) (y := (.tmp 48)) (A := Z1) (k' := .i64) (j := x1) (jn := ((x1).toNat)) (b0 := blkOf Z1) (o0 := offOf Z1) (by kernel_rfl) (by kernel_rfl) (by kernel_rfl) (by kernel_rfl) (by kernel_rfl) ((hS7.rdAt 0 rfl).eqSome (pos_of_get hx2)) (Int.toNat_of_nonneg hc11).symm (lt_of_get hx2) ?_
                  refine ge_batch [3, 4, 5, 6, 7, 8, 9] (ans := [.val (.int .i64 e2)]) (vs := [(56, .int .i64 (IntKind.i64.wrap ((IntKind.i64.wrap (((List.mergeSort l0 (fun x y => decide (x ≤ y))).length : Int) - 1)) - x1))), (55, .int .i64 x1), (54, .int .i64 (IntKind.i64.wrap (((List.mergeSort l0 (fun x y => decide (x ≤ y))).length : Int) - 1))), (53, .int .i64 ((List.mergeSort l0 (fun x y => decide (x ≤ y))).length : Int)), (52, (.slice Z1 (List.mergeSort l0 (fun x y => decide (x ≤ y))).length cz1)), (51, (.slice Z1 (List.mergeSort l0 (fun x y => decide (x ≤ y))).length cz1)), (50, .int .i64 e2)]) (l := [.loaded ⟨blkOf Z1, offOf Z1 + ((x1).toNat) * 1, none⟩ (.int .i64 e2)]) (by kernel_rfl) ⟨RdL.cell (j := 0) (hS7.rdAt 0 rfl) hx2 rfl, trivial⟩ ?_
                  by_cases hc12 : 0 ≤ (IntKind.i64.wrap ((IntKind.i64.wrap (((List.mergeSort l0 (fun x y => decide (x ≤ y))).length : Int) - 1)) - x1))
                  · rw [if_pos hc12] at h
                    rcases hx3 : (List.mergeSort l0 (fun x y => decide (x ≤ y)))[(IntKind.i64.wrap ((IntKind.i64.wrap (((List.mergeSort l0 (fun x y => decide (x ≤ y))).length : Int) - 1)) - x1)).toNat]? with _ | e3
                    · rw [hx3] at h; cases h
                    rw [hx3] at h
                    simp only [] at h
                    refine ge_index (d := 57) (ty := 0) (t := 26) (el := 3) (sz := 1) (m := (List.mergeSort l0 (fun x y => decide (x ≤ y))).length) (c := cz1) (x := (.tmp 51)) (y := (.tmp 56)) (A := Z1) (k' := .i64) (j := (IntKind.i64.wrap ((IntKind.i64.wrap (((List.mergeSort l0 (fun x y => decide (x ≤ y))).length : Int) - 1)) - x1))) (jn := ((IntKind.i64.wrap ((IntKind.i64.wrap (((List.mergeSort l0 (fun x y => decide (x ≤ y))).length : Int) - 1)) - x1)).toNat)) (b0 := blkOf Z1) (o0 := offOf Z1) (by kernel_rfl) (by kernel_rfl) (by kernel_rfl) (by kernel_rfl) (by kernel_rfl) ((hS7.rdAt 0 rfl).eqSome (pos_of_get hx3)) (Int.toNat_of_nonneg hc12).symm (lt_of_get hx3) ?_
                    refine ge_batch [11, 12, 13, 14, 15] (ans := [.val (.int .i64 e3)]) (vs := [(5, .int .i64 0), (4, .int .i64 (Int.fdiv (IntKind.i64.wrap (e2 + e3)) (2 ^ 1))), (60, .int .i64 (Int.fdiv (IntKind.i64.wrap (e2 + e3)) (2 ^ 1))), (59, .int .i64 (IntKind.i64.wrap (e2 + e3))), (58, .int .i64 e3)]) (l := [.loaded ⟨blkOf Z1, offOf Z1 + ((IntKind.i64.wrap ((IntKind.i64.wrap (((List.mergeSort l0 (fun x y => decide (x ≤ y))).length : Int) - 1)) - x1)).toNat) * 1, none⟩ (.int .i64 e3)]) (by kernel_rfl) ⟨RdL.cell (j := 0) (hS7.rdAt 0 rfl) hx3 rfl, trivial⟩ ?_
                    refine ge_nil fun a hF => hK21 _ _ ?_ a hF
                    have hS8 := hS7.takeN 0
                    obtain rfl := Option.some.inj h
                    exact we_ret (post_ret (rs := [.tmp 4, .tmp 5]) (ans := []) (vs := [.int .i64 (Int.fdiv (IntKind.i64.wrap (e2 + e3)) (2 ^ 1)), .int .i64 0]) (l := []) rfl (by kernel_rfl) trivial ⟨rfl, hS8⟩)
                  · rw [if_neg hc12] at h
                    cases h
                · rw [if_neg hc11] at h
                  cases h
              · rw [if_neg hc10] at h
                cases h
            · rw [if_neg hc9] at h
              cases h
    · rw [hq2] at h
      simp only [] at h
      refine we_iter (A := net_Middle.A1 K w0 l0 A0 c0 x1 hR0 hL0) (B := net_Middle.B1 K w0 l0 A0 c0 x1 hR0 hL0) hq2 (fun a hF => ⟨hS1, hF.weaken ⟨by kernel_rfl, by kernel_rfl, by kernel_rfl, by kernel_rfl, by kernel_rfl, trivial⟩⟩) (fun s o hf a w hA Q hQ => net_Middle_r1 K w0 l0 A0 c0 x1 hR0 hL0 s o hf a w hA Q hQ) ?_
      rintro _ a w1 _ ⟨rfl, hb⟩
      obtain rfl := Option.some.inj h
      exact hb
  · rw [hq1] at h
    simp only [] at h
    refine we_keep (e' := [(0, .slice A0 l0.length c0), (1, .int .i64 x1), (4, .int .i64 0), (5, .int .i64 0)]) ⟨by kernel_rfl, by kernel_rfl, by kernel_rfl, by kernel_rfl, trivial⟩ (net_Middle_p0 K w0 l0 A0 c0 x1 hR0 hL0 _ hq1 _ hS _ ?_)
    rintro _ a w1 ⟨_, rfl, hb⟩
    obtain rfl := Option.some.inj h
    exact hb

/-! punctual/punctuallaw.middle -/
abbrev middle.Post (w0 : World) (r : Bool) (e : Ending) (w : World) : Prop := e = .returned (.bool r) ∧ St w0 w []
def middle.f (K : Nat) : Option Bool :=
  match net_Middle.f K ([10, 12, 11, 1000] : List Int) 1 with
  | none => none
  | some r1 =>
    if r1.1 = 11 then
      some (r1.2 == 0)
    else
      some false
theorem middle_ok (K : Nat)  (w0 : World) (r : Bool) (h : middle.f K = some r) :
    Calls Try.prog 18 #[] w0 (middle.Post w0 r) := by
  have hS := St.start w0
  unfold middle.f at h
  refine calls_enter (n := 14) (args := []) (fn := Try.f18) rfl rfl rfl rfl ?_
  show WE _ _ _ _ [] _
  refine we_seq fun K1 hK1 => ?_
  refine we_region [(0, 0)] rfl ?_
  refine ge_batch [0] (ans := []) (vs := [(0, .bool false)]) (l := []) (by kernel_rfl) trivial ?_
  refine ge_nil fun a hF => hK1 _ _ ?_ a hF
  refine we_seq fun K2 hK2 => ?_
  refine we_region [(0, 1), (1, 1), (2, 0), (3, 0), (4, 0), (5, 0), (6, 0)] rfl ?_
  refine ge_new (d := some 4) (o := .cells #[.int .i64 10, .int .i64 12, .int .i64 11, .int .i64 1000] 3) (v := fun b => .slice (some ⟨b, 0, none⟩) 4 4) hS (fun b => by kernel_rfl) fun b1 w1 hx1 hS1 => ?_
  rcases hq1 : net_Middle.f K ([10, 12, 11, 1000] : List Int) 1 with _ | r1
  · rw [hq1] at h; cases h
  rw [hq1] at h
  simp only [] at h
  refine ge_call (d := some 5) (f := 28) (args := #[.slice (some ⟨b1, 0, none⟩) 4 4, .int .i64 1]) (by kernel_rfl) (net_Middle_ok K ([10, 12, 11, 1000] : List Int) (some ⟨b1, 0, none⟩) 4 1 _ (hS1.rdBlk 0 ([10, 12, 11, 1000] : List Int) rfl rfl rfl) (Nat.le_refl _) _ hq1) ?_
  rintro _ w2 ⟨rfl, hS2⟩
  refine ⟨_, rfl, hS2.below, ?_⟩
  have hS3 := hS1.call hS2
  refine ge_batch [2, 3, 4, 5, 6] (ans := []) (vs := [(2, .int .i64 r1.2), (1, .int .i64 r1.1), (7, .int .i64 r1.2), (6, .int .i64 r1.1), (3, .tuple #[.int .i64 r1.1, .int .i64 r1.2])]) (l := []) (by kernel_rfl) trivial ?_
  refine ge_nil fun a hF => hK2 _ _ ?_ a hF
  refine we_seq fun K3 hK3 => ?_
  refine we_region [(0, 0), (1, 0), (2, 0), (3, 0), (4, 0), (5, 0), (6, 0)] rfl ?_
  refine ge_batch [0, 1, 2] (ans := []) (vs := [(10, .bool (r1.1 == 11)), (9, .bool (r1.1 == 11)), (8, .int .i64 r1.1)]) (l := []) (by kernel_rfl) trivial ?_
  by_cases hc1 : r1.1 = 11
  · rw [if_pos hc1] at h
    refine ge_known (t := 10) (b := (r1.1 == 11)) (c := true) (by kernel_rfl) (beq_iff_eq.2 hc1) ?_
    refine ge_batch [3, 4, 5, 6] (ans := []) (vs := [(0, .bool (r1.2 == 0)), (13, .bool (r1.2 == 0)), (12, .bool (r1.2 == 0)), (11, .int .i64 r1.2)]) (l := []) (by kernel_rfl) trivial ?_
    refine ge_nil fun a hF => hK3 _ _ ?_ a hF
    have hS4 := hS3.takeN 0
    obtain rfl := Option.some.inj h
    exact we_ret (post_ret (rs := [.tmp 0]) (ans := []) (vs := [.bool (r1.2 == 0)]) (l := []) rfl (by kernel_rfl) trivial ⟨rfl, hS4⟩)
  · rw [if_neg hc1] at h
    refine ge_known (t := 10) (b := (r1.1 == 11)) (c := false) (by kernel_rfl) (beq_eq_false_iff_ne.2 hc1) ?_
    refine ge_batch [3, 4, 5, 6] (ans := []) (vs := [(0, .bool false), (13, .bool false), (12, undef), (11, undef)]) (l := []) (by kernel_rfl) trivial ?_
    refine ge_nil fun a hF => hK3 _ _ ?_ a hF
    have hS5 := hS3.takeN 0
    obtain rfl := Option.some.inj h
    exact we_ret (post_ret (rs := [.tmp 0]) (ans := []) (vs := [.bool false]) (l := []) rfl (by kernel_rfl) trivial ⟨rfl, hS5⟩)

/-! punctual/punctuallaw.few -/
abbrev few.Post (w0 : World) (r : Bool) (e : Ending) (w : World) : Prop := e = .returned (.bool r) ∧ St w0 w []
def few.f (x0 : Int) : Bool :=
  decide (x0 ≤ 5000)
theorem few_ok (x0 : Int) (w0 : World) (r : Bool) (h : few.f x0 = r) :
    Calls Try.prog 9 #[.int .i64 x0] w0 (few.Post w0 r) := by
  have hS := St.start w0
  unfold few.f at h
  refine calls_enter (n := 5) (args := [.int .i64 x0]) (fn := Try.f9) rfl rfl rfl rfl ?_
  show WE _ _ _ _ [(0, .int .i64 x0)] _
  refine we_seq fun K1 hK1 => ?_
  refine we_region [(0, 0)] rfl ?_
  refine ge_batch [0] (ans := []) (vs := [(2, .bool false)]) (l := []) (by kernel_rfl) trivial ?_
  refine ge_nil fun a hF => hK1 _ _ ?_ a hF
  refine we_seq fun K2 hK2 => ?_
  refine we_region [(0, 0), (1, 0), (2, 0)] rfl ?_
  refine ge_batch [0, 1, 2] (ans := []) (vs := [(2, .bool (decide (x0 ≤ 5000))), (4, .bool (decide (x0 ≤ 5000))), (3, .int .i64 x0)]) (l := []) (by kernel_rfl) trivial ?_
  refine ge_nil fun a hF => hK2 _ _ ?_ a hF
  subst h
  exact we_ret (post_ret (rs := [.tmp 2]) (ans := []) (vs := [.bool (decide (x0 ≤ 5000))]) (l := []) rfl (by kernel_rfl) trivial ⟨rfl, hS⟩)

/-! punctual/punctualsame.Copy -/
abbrev ps_Copy.Post (w0 : World) (r : List (List Int)) (e : Ending) (w : World) : Prop := ∃ (y0 : Rows), e = .returned ((Rows.val y0)) ∧ St w0 w [Own.nest y0 26 3 r]
def ps_Copy.r0 (l0 : List (List Int)) : (List (List Int)) × Int → Option (((List (List Int)) × Int) ⊕ ((List (List Int)) ⊕ (List (List Int))))
  | (m1, z1) =>
    if z1 < (l0.length : Int) then
      if 0 ≤ z1 then
        match l0[(z1).toNat]? with
        | none => none
        | some e1 =>
          if 0 + e1.length ≤ 17592186044416 then
            if m1.length < 5864062014805 then
              some (.inl ((m1 ++ [e1]), IntKind.i64.wrap (z1 + 1)))
            else
              none
          else
            none
      else
        none
    else
      some (.inr (.inl m1))
def ps_Copy.f (K : Nat) (l0 : List (List Int)) : Option (List (List Int)) :=
  match iter (ps_Copy.r0 l0) K (([] : List (List Int)), 0) with
  | none => none
  | some (.inl m3) =>
    some m3
  | some (.inr rr1) =>
    some rr1
abbrev ps_Copy.A0 (K : Nat) (w0 : World) (l0 : List (List Int)) (hd0 : List Hdr) (A0 : Option Addr) (c0 : Nat) (hR0 : RdL w0 A0 hd0) (hL0 : l0.length ≤ c0) (hN0 : NestL w0 hd0 l0) : ((List (List Int)) × Int) → Act → World → Prop := fun (s : (List (List Int)) × Int) a w => ∃ (xr1 : Rows), St w0 w [Own.nest xr1 26 3 s.1] ∧ Frm 20 a [(3, (Rows.val xr1)), (6, .slice A0 l0.length c0), (7, .int .i64 (l0.length : Int)), (8, .int .i64 s.2)]
abbrev ps_Copy.B0 (K : Nat) (w0 : World) (l0 : List (List Int)) (hd0 : List Hdr) (A0 : Option Addr) (c0 : Nat) (hR0 : RdL w0 A0 hd0) (hL0 : l0.length ≤ c0) (hN0 : NestL w0 hd0 l0) : ((List (List Int)) ⊕ (List (List Int))) → Exit → Act → World → Prop := Exits 0 (fun (s : (List (List Int))) a w => ∃ (xr2 : Rows), St w0 w [Own.nest xr2 26 3 s] ∧ Frm 20 a [(3, (Rows.val xr2))]) (Rets Try.prog Try.f23 (ps_Copy.Post w0))
theorem ps_Copy_r0 (K : Nat) (w0 : World) (l0 : List (List Int)) (hd0 : List Hdr) (A0 : Option Addr) (c0 : Nat) (hR0 : RdL w0 A0 hd0) (hL0 : l0.length ≤ c0) (hN0 : NestL w0 hd0 l0) (s : (List (List Int)) × Int) (o : ((List (List Int)) × Int) ⊕ ((List (List Int)) ⊕ (List (List Int)))) (h : ps_Copy.r0 l0 s = some o) (a : Act) (w : World) (hA : ps_Copy.A0 K w0 l0 hd0 A0 c0 hR0 hL0 hN0 s a w) (Q : Exit → Act → World → Prop) (hQ : ∀ x a w, Outs (ps_Copy.A0 K w0 l0 hd0 A0 c0 hR0 hL0 hN0) (ps_Copy.B0 K w0 l0 hd0 A0 c0 hR0 hL0 hN0) o x a w → Q x a w) : (subF Try.f23 [1, 1, 0, 1, 0, 0]).wp Try.prog Q a w := by
  obtain ⟨m1, z1⟩ := s
  obtain ⟨xr1, hS, hF⟩ := hA
  replace hS : St w0 w [Own.nest xr1 26 3 m1] := hS
  simp only [ps_Copy.r0] at h
  refine (?_ : WE Try.prog 20 (subF Try.f23 [1, 1, 0, 1, 0, 0]) Q [(3, (Rows.val xr1)), (6, .slice A0 l0.length c0), (7, .int .i64 (l0.length : Int)), (8, .int .i64 z1)] w) a hF
  clear hF a
  refine we_seq fun K5 hK5 => ?_
  refine we_region [(0, 0)] rfl ?_
  refine ge_batch [0] (ans := []) (vs := [(9, .bool (decide (z1 < (l0.length : Int))))]) (l := []) (by kernel_rfl) trivial ?_
  refine ge_nil fun a hF => hK5 _ _ ?_ a hF
  refine we_seq fun K6 hK6 => ?_
  by_cases hc1 : z1 < (l0.length : Int)
  · rw [if_pos hc1] at h
    refine we_known (t := 9) (b := decide (z1 < (l0.length : Int))) (v := true) (by kernel_rfl) (decide_eq_true hc1) ?_
    refine we_true (by kernel_rfl) ?_
    refine we_skip fun a hF => hK6 _ _ ?_ a hF
    refine we_seq fun K7 hK7 => ?_
    refine we_block ?_
    refine we_seq fun K8 hK8 => ?_
    refine we_region [(0, 0), (1, 0), (2, 0)] rfl ?_
    by_cases hc2 : 0 ≤ z1
    · rw [if_pos hc2] at h
      rcases hx1 : l0[(z1).toNat]? with _ | e1
      · rw [hx1] at h; cases h
      rw [hx1] at h
      simp only [] at h
      obtain ⟨An1, cn1, hxn1, hRn1, hLn1⟩ := hN0.get hx1
      refine ge_index (d := 10) (ty := 0) (t := 51) (el := 26) (sz := 1) (m := l0.length) (c := c0) (x := (.tmp 6)) (y := (.tmp 8)) (A := A0) (k' := .i64) (j := z1) (jn := ((z1).toNat)) (b0 := blkOf A0) (o0 := offOf A0) (by kernel_rfl) (by kernel_rfl) (by kernel_rfl) (by kernel_rfl) (by kernel_rfl) ((hS.rd hR0).eqSome (pos_of_get hxn1)) (Int.toNat_of_nonneg hc2).symm (lt_of_get hx1) ?_
      refine ge_batch [1, 2] (ans := [.val (.slice An1 e1.length cn1)]) (vs := [(5, .slice An1 e1.length cn1), (11, .slice An1 e1.length cn1)]) (l := [.loaded ⟨blkOf A0, offOf A0 + ((z1).toNat) * 1, none⟩ (.slice An1 e1.length cn1)]) (by kernel_rfl) ⟨RdL.cell (j := 0) (hS.rd hR0) hxn1 rfl, trivial⟩ ?_
      refine ge_nil fun a hF => hK8 _ _ ?_ a hF
      refine we_region [(0, 0), (1, 1), (2, 0), (3, 2), (4, 1), (5, 2), (6, 0)] rfl ?_
      refine ge_batch [0] (ans := []) (vs := [(12, (Rows.val xr1))]) (l := []) (by kernel_rfl) trivial ?_
      refine ge_new (d := some 13) (o := .cells #[] 3) (v := fun b => .slice (some ⟨b, 0, none⟩) 0 0) hS (fun b => by kernel_rfl) fun b1 w1 hx2 hS2 => ?_
      refine ge_batch [2] (ans := []) (vs := [(14, .slice An1 e1.length cn1)]) (l := []) (by kernel_rfl) trivial ?_
      have hS3 := hS2.asRow (α := Int) (c := 0) ([] : List Int) (Nat.le_refl _) (by decide) rfl rfl
      by_cases hc3 : 0 + e1.length ≤ 17592186044416
      · rw [if_pos hc3] at h
        refine ge_appendL (α := Int) (m := 0) (d := 15) (t := 26) (el := 3) (bytes := 8) (c1 := cn1) (A1 := An1) (x := (.tmp 13)) (y := (.tmp 14)) (ty := 26) (v := (.slice (some ⟨b1, 0, none⟩) 0 0)) (z := .int .i64 0) (l := ([] : List Int)) (us := e1) (by kernel_rfl) (by kernel_rfl) (by kernel_rfl) (by kernel_rfl) (by kernel_rfl) rfl hS3 (hS3.rd hRn1) rfl (Nat.mul_le_of_le_div _ _ _ hc3) fun v1 w2 hS4 => ?_
        have hS5 : St w0 w2 [Own.of v1 3 e1, Own.nest xr1 26 3 m1] := hS4
        obtain ⟨Z1, cz1, rfl⟩ := hS5.open 0 rfl
        refine ge_new (d := some 16) (o := .cells #[(.slice Z1 e1.length cz1)] 26) (v := fun b => .slice (some ⟨b, 0, none⟩) 1 1) hS5 (fun b => by kernel_rfl) fun b2 w3 hx3 hS6 => ?_
        have hS7 := hS6.bring 1 rfl
        have hS8 := hS7.bring 2 rfl
        by_cases hc4 : m1.length < 5864062014805
        · rw [if_pos hc4] at h
          refine ge_nestAdd (α := Int) (m := 0) (d := 17) (t := 51) (T := 26) (e0 := 3) (bytes := 24) (c1 := 1) (b1 := b2) (x := (.tmp 12)) (y := (.tmp 16)) (ty := 51) (X := xr1) (l := e1) (ls := m1) (A := Z1) (cc := cz1) (by kernel_rfl) (by kernel_rfl) (by kernel_rfl) (by kernel_rfl) (by kernel_rfl) hS8 rfl (by omega) fun xr3 w4 hS9 => ?_
          refine ge_batch [6] (ans := []) (vs := [(3, (Rows.val xr3))]) (l := []) (by kernel_rfl) trivial ?_
          refine ge_nil fun a hF => hK7 _ _ ?_ a hF
          refine we_region [(0, 0), (1, 0)] rfl ?_
          refine ge_batch [0, 1] (ans := []) (vs := [(8, .int .i64 (IntKind.i64.wrap (z1 + 1))), (18, .int .i64 (IntKind.i64.wrap (z1 + 1)))]) (l := []) (by kernel_rfl) trivial ?_
          obtain rfl := Option.some.inj h
          exact ge_nil fun a hF => hQ _ _ _ (Outs.again ⟨xr3, hS9, hF.weaken ⟨by kernel_rfl, by kernel_rfl, by kernel_rfl, by kernel_rfl, trivial⟩⟩)
        · rw [if_neg hc4] at h
          cases h
      · rw [if_neg hc3] at h
        cases h
    · rw [if_neg hc2] at h
      cases h
  · rw [if_neg hc1] at h
    refine we_known (t := 9) (b := decide (z1 < (l0.length : Int))) (v := false) (by kernel_rfl) (decide_eq_false hc1) ?_
    refine we_false (by kernel_rfl) ?_
    obtain rfl := Option.some.inj h
    exact we_exit fun a hF => hQ _ _ _ (Outs.out nofun (Exits.here ⟨xr1, hS, hF.weaken ⟨by kernel_rfl, trivial⟩⟩))
theorem ps_Copy_ok (K : Nat) (l0 : List (List Int)) (hd0 : List Hdr) (A0 : Option Addr) (c0 : Nat) (w0 : World) (hR0 : RdL w0 A0 hd0) (hL0 : l0.length ≤ c0) (hN0 : NestL w0 hd0 l0) (r : List (List Int)) (h : ps_Copy.f K l0 = some r) :
    Calls Try.prog 23 #[.slice A0 l0.length c0] w0 (ps_Copy.Post w0 r) := by
  have hS := St.start w0
  unfold ps_Copy.f at h
  refine calls_enter (n := 20) (args := [.slice A0 l0.length c0]) (fn := Try.f23) rfl rfl rfl rfl ?_
  show WE _ _ _ _ [(0, .slice A0 l0.length c0)] _
  refine we_seq fun K1 hK1 => ?_
  refine we_region [(0, 0)] rfl ?_
  refine ge_batch [0] (ans := []) (vs := [(2, .slice none 0 0)]) (l := []) (by kernel_rfl) trivial ?_
  refine ge_nil fun a hF => hK1 _ _ ?_ a hF
  refine we_seq fun K2 hK2 => ?_
  refine we_region [(0, 0)] rfl ?_
  refine ge_batch [0] (ans := []) (vs := [(3, .slice none 0 0)]) (l := []) (by kernel_rfl) trivial ?_
  refine ge_nil fun a hF => hK2 _ _ ?_ a hF
  refine we_seq fun K3 hK3 => ?_
  refine we_seq fun K4 hK4 => ?_
  refine we_region [(0, 0), (1, 0), (2, 0)] rfl ?_
  refine ge_batch [0, 1, 2] (ans := []) (vs := [(8, .int .i64 0), (7, .int .i64 (l0.length : Int)), (6, .slice A0 l0.length c0)]) (l := []) (by kernel_rfl) trivial ?_
  refine ge_nil fun a hF => hK4 _ _ ?_ a hF
  refine we_block ?_
  have hS1 := hS.nestNil (α := Int) 26 3
  rcases hq1 : iter (ps_Copy.r0 l0) K (([] : List (List Int)), 0) with _ | (m3 | rr1)
  · rw [hq1] at h; cases h
  · rw [hq1] at h
    simp only [] at h
    refine we_iter (A := ps_Copy.A0 K w0 l0 hd0 A0 c0 hR0 hL0 hN0) (B := ps_Copy.B0 K w0 l0 hd0 A0 c0 hR0 hL0 hN0) hq1 (fun a hF => ⟨Rows.none, hS1, hF.weaken ⟨by kernel_rfl, by kernel_rfl, by kernel_rfl, by kernel_rfl, trivial⟩⟩) (fun s o hf a w hA Q hQ => ps_Copy_r0 K w0 l0 hd0 A0 c0 hR0 hL0 hN0 s o hf a w hA Q hQ) ?_
    rintro _ a w5 _ ⟨rfl, xr4, hS10, hF⟩
    replace hS10 : St w0 w5 [Own.nest xr4 26 3 m3] := hS10
    refine hK3 [(3, (Rows.val xr4))] w5 ?_ a hF
    refine we_seq fun K9 hK9 => ?_
    refine we_region [(0, 0), (1, 0)] rfl ?_
    refine ge_batch [0, 1] (ans := []) (vs := [(2, (Rows.val xr4)), (19, (Rows.val xr4))]) (l := []) (by kernel_rfl) trivial ?_
    refine ge_nil fun a hF => hK9 _ _ ?_ a hF
    obtain rfl := Option.some.inj h
    exact we_ret (post_ret (rs := [.tmp 2]) (ans := []) (vs := [(Rows.val xr4)]) (l := []) rfl (by kernel_rfl) trivial ⟨xr4, rfl, hS10⟩)
  · rw [hq1] at h
    simp only [] at h
    refine we_iter (A := ps_Copy.A0 K w0 l0 hd0 A0 c0 hR0 hL0 hN0) (B := ps_Copy.B0 K w0 l0 hd0 A0 c0 hR0 hL0 hN0) hq1 (fun a hF => ⟨Rows.none, hS1, hF.weaken ⟨by kernel_rfl, by kernel_rfl, by kernel_rfl, by kernel_rfl, trivial⟩⟩) (fun s o hf a w hA Q hQ => ps_Copy_r0 K w0 l0 hd0 A0 c0 hR0 hL0 hN0 s o hf a w hA Q hQ) ?_
    rintro _ a w1 _ ⟨rfl, hb⟩
    obtain rfl := Option.some.inj h
    exact hb

/-! punctual/punctualsame.Lend[int] -/
abbrev ps_Lend_int.Post (w0 : World) (n : Nat) (r : List Int) (e : Ending) (w : World) : Prop := ∃ (A : Option Addr) (c : Nat), e = .returned (.slice A n c) ∧ r.length ≤ c ∧ St w0 w [Own.of (.slice A r.length c) 3 r]
def ps_Lend_int.f (l0 : List Int) (x1 : Int) : Option (List Int) :=
  if 0 ≤ (IntKind.i64.wrap ((l0.length : Int) + 3)) then
    if ((IntKind.i64.wrap ((l0.length : Int) + 3)).toNat) ≤ 17592186044416 then
      if (List.replicate 0 (0 : Int)).length + l0.length ≤ 17592186044416 then
        if ((List.replicate 0 (0 : Int)) ++ l0).length + 3 ≤ 17592186044416 then
          some (((List.replicate 0 (0 : Int)) ++ l0) ++ ([x1, x1, x1] : List Int))
        else
          none
      else
        none
    else
      none
  else
    none
theorem ps_Lend_int_ok (l0 : List Int) (A0 : Option Addr) (c0 : Nat) (x1 : Int) (w0 : World) (hR0 : RdL w0 A0 l0) (hL0 : l0.length ≤ c0) (r : List Int) (h : ps_Lend_int.f l0 x1 = some r) :
    Calls Try.prog 24 #[.slice A0 l0.length c0, .int .i64 x1] w0 (ps_Lend_int.Post w0 l0.length r) := by
  have hS := St.start w0
  unfold ps_Lend_int.f at h
  refine calls_enter (n := 21) (args := [.slice A0 l0.length c0, .int .i64 x1]) (fn := Try.f24) rfl rfl rfl rfl ?_
  show WE _ _ _ _ [(0, .slice A0 l0.length c0), (1, .int .i64 x1)] _
  refine we_seq fun K1 hK1 => ?_
  refine we_region [(0, 0)] rfl ?_
  refine ge_batch [0] (ans := []) (vs := [(4, .slice none 0 0)]) (l := []) (by kernel_rfl) trivial ?_
  refine ge_nil fun a hF => hK1 _ _ ?_ a hF
  refine we_seq fun K2 hK2 => ?_
  refine we_region [(0, 0), (1, 0), (2, 0), (3, 1), (4, 0), (5, 2), (6, 0), (7, 0), (8, 0), (9, 1), (10, 2), (11, 0)] rfl ?_
  refine ge_batch [0, 1, 2] (ans := []) (vs := [(8, .int .i64 (IntKind.i64.wrap ((l0.length : Int) + 3))), (7, .int .i64 (l0.length : Int)), (6, .slice A0 l0.length c0)]) (l := []) (by kernel_rfl) trivial ?_
  by_cases hc1 : 0 ≤ (IntKind.i64.wrap ((l0.length : Int) + 3))
  · rw [if_pos hc1] at h
    by_cases hc2 : ((IntKind.i64.wrap ((l0.length : Int) + 3)).toNat) ≤ 17592186044416
    · rw [if_pos hc2] at h
      refine ge_make (α := Int) (d := 9) (t := 26) (el := 3) (bytes := 8) (l := 0) (c := ((IntKind.i64.wrap ((l0.length : Int) + 3)).toNat)) (x := (.const (.int .i64 0))) (y := (.tmp 8)) (ty := 26) (k1 := .i64) (k2 := .i64) (li := 0) (ci := (IntKind.i64.wrap ((l0.length : Int) + 3))) (z := .int .i64 0) (z' := (0 : Int)) (by kernel_rfl) (by kernel_rfl) (by kernel_rfl) rfl (Int.toNat_of_nonneg hc1).symm (by kernel_rfl) (by kernel_rfl) rfl hS (Nat.zero_le _) rfl (by omega) fun v1 w1 _ hS1 => ?_
      refine ge_batch [4] (ans := []) (vs := [(10, .slice A0 l0.length c0)]) (l := []) (by kernel_rfl) trivial ?_
      by_cases hc3 : (List.replicate 0 (0 : Int)).length + l0.length ≤ 17592186044416
      · rw [if_pos hc3] at h
        refine ge_appendL (α := Int) (m := 0) (d := 11) (t := 26) (el := 3) (bytes := 8) (c1 := c0) (A1 := A0) (x := (.tmp 9)) (y := (.tmp 10)) (ty := 26) (v := v1) (z := .int .i64 0) (l := (List.replicate 0 (0 : Int))) (us := l0) (by kernel_rfl) (by kernel_rfl) (by kernel_rfl) (by kernel_rfl) (by kernel_rfl) rfl hS1 (hS1.rd hR0) rfl (Nat.mul_le_of_le_div _ _ _ hc3) fun v2 w2 hS2 => ?_
        have hS3 : St w0 w2 [Own.of v2 3 ((List.replicate 0 (0 : Int)) ++ l0)] := hS2
        refine ge_batch [6, 7, 8] (ans := []) (vs := [(14, .int .i64 x1), (13, .int .i64 x1), (12, .int .i64 x1)]) (l := []) (by kernel_rfl) trivial ?_
        refine ge_new (d := some 15) (o := .cells #[.int .i64 x1, .int .i64 x1, .int .i64 x1] 3) (v := fun b => .slice (some ⟨b, 0, none⟩) 3 3) hS3 (fun b => by kernel_rfl) fun b1 w3 hx1 hS4 => ?_
        have hS5 := hS4.bring 1 rfl
        by_cases hc4 : ((List.replicate 0 (0 : Int)) ++ l0).length + 3 ≤ 17592186044416
        · rw [if_pos hc4] at h
          refine ge_appendL (α := Int) (m := 0) (d := 16) (t := 26) (el := 3) (bytes := 8) (c1 := 3) (A1 := (some ⟨b1, 0, none⟩)) (x := (.tmp 11)) (y := (.tmp 15)) (ty := 26) (v := v2) (z := .int .i64 0) (l := ((List.replicate 0 (0 : Int)) ++ l0)) (us := ([x1, x1, x1] : List Int)) (by kernel_rfl) (by kernel_rfl) (by kernel_rfl) (by kernel_rfl) (by kernel_rfl) rfl hS5 (hS5.rdBlk 1 ([x1, x1, x1] : List Int) rfl rfl rfl) rfl (Nat.mul_le_of_le_div _ _ _ hc4) fun v3 w4 hS6 => ?_
          have hS7 : St w0 w4 [Own.of v3 3 (((List.replicate 0 (0 : Int)) ++ l0) ++ ([x1, x1, x1] : List Int)), Own.blk b1 (.cells #[.int .i64 x1, .int .i64 x1, .int .i64 x1] 3 (0, 0))] := hS6
          refine ge_batch [11] (ans := []) (vs := [(5, v3)]) (l := []) (by kernel_rfl) trivial ?_
          refine ge_nil fun a hF => hK2 _ _ ?_ a hF
          refine we_seq fun K3 hK3 => ?_
          refine we_region [(0, 0), (1, 0), (2, 0), (3, 0), (4, 0)] rfl ?_
          refine ge_batch [0, 1, 2] (ans := []) (vs := [(19, .int .i64 (l0.length : Int)), (18, .slice A0 l0.length c0), (17, v3)]) (l := []) (by kernel_rfl) trivial ?_
          obtain ⟨Z1, cz1, rfl, hcp1⟩ := hS7.open2 0 rfl
          refine ge_sliceHi (d := 20) (ty := 26) (t := 26) (el := 3) (sz := 1) (m := ((((List.replicate 0 (0 : Int)) ++ l0) ++ ([x1, x1, x1] : List Int)).length)) (c := cz1) (hn := l0.length) (x := (.tmp 17)) (y := (.tmp 19)) (A := Z1) (k' := .i64) (hi := (l0.length : Int)) (by kernel_rfl) (by kernel_rfl) (by kernel_rfl) rfl (by kernel_rfl) (by kernel_rfl) (by have h0 := hcp1; simp only [List.length_append, List.length_cons, List.length_nil] at h0; omega) ?_
          refine ge_batch [4] (ans := []) (vs := [(4, .slice Z1 l0.length cz1)]) (l := []) (by kernel_rfl) trivial ?_
          refine ge_nil fun a hF => hK3 _ _ ?_ a hF
          have hS8 := hS7.takeN 1
          obtain rfl := Option.some.inj h
          exact we_ret (post_ret (rs := [.tmp 4]) (ans := []) (vs := [.slice Z1 l0.length cz1]) (l := []) rfl (by kernel_rfl) trivial ⟨Z1, cz1, rfl, hcp1, hS8⟩)
        · rw [if_neg hc4] at h
          cases h
      · rw [if_neg hc3] at h
        cases h
    · rw [if_neg hc2] at h
      cases h
  · rw [if_neg hc1] at h
    cases h
theorem ps_Lend_int_full (l0 : List Int) (x1 : Int) {r : List Int} (h : ps_Lend_int.f l0 x1 = some r) : r = l0 ++ [x1, x1, x1] := by
  unfold ps_Lend_int.f at h
  repeat' split at h
  all_goals first | (exact (Option.some.inj h).symm) | cases h

structure SFault where
  Code : Int
  At : Int
def SFault.eqb (x y : SFault) : Bool := ((x.Code == y.Code) && ((x.At == y.At) && true))
instance : Ok SFault := ⟨fun x => Ok.ok x.Code ∧ Ok.ok x.At ∧ True⟩
instance : Flat SFault := ⟨2, fun x => [.int .i64 x.Code, .int .i64 x.At], fun _ => rfl, fun _ => rfl, by decide⟩

/-! punctual/net.Round -/
abbrev net_Round.Post (w0 : World) (r : (List Int) × SFault) (e : Ending) (w : World) : Prop := ∃ (v0 : Value), e = .returned (.tuple #[v0, .agg #[.int .i64 r.2.Code, .int .i64 r.2.At]]) ∧ St w0 w [Own.of v0 3 r.1]
def net_Round.p0 (l0 : List (List Int)) (l2 : List Int) : Option (Unit ⊕ ((List Int) × SFault)) :=
    if (l0.length : Int) < 1 then
      some (.inr (([] : List Int), (⟨2, 0⟩ : SFault)))
    else
      if (l0.length : Int) > 10 then
        some (.inr (([] : List Int), (⟨2, 0⟩ : SFault)))
      else
        if (l2.length : Int) = (l0.length : Int) then
          some (.inl ())
        else
          some (.inr (([] : List Int), (⟨2, 0⟩ : SFault)))
def net_Round.p2 (l0 : List (List Int)) (l2 : List Int) (z1 : Int) (e1 : List Int) : Option (Bool ⊕ ((List Int) × SFault)) :=
    if (e1.length : Int) = (l0.length : Int) then
      match l2[(z1).toNat]? with
      | none => none
      | some e2 =>
        if e2 < (-1099511627776) then
          some (.inl true)
        else
          some (.inl (decide (e2 > 1099511627776)))
    else
      some (.inl true)
def net_Round.r1 (K : Nat) (l0 : List (List Int)) (x1 : Int) (l2 : List Int) : (List Int) × Int → Option (((List Int) × Int) ⊕ ((List Int) ⊕ ((List Int) × SFault)))
  | (m1, z1) =>
    if z1 < (l0.length : Int) then
      if 0 ≤ z1 then
        match l0[(z1).toNat]? with
        | none => none
        | some e1 =>
          match net_Round.p2 l0 l2 z1 e1 with
          | none => none
          | some (.inl q2) =>
            if q2 = true then
              some (.inr (.inr (([] : List Int), (⟨3, z1⟩ : SFault))))
            else
              match net_Middle.f K e1 x1 with
              | none => none
              | some r1 =>
                if r1.2 = 0 then
                  match l2[(z1).toNat]? with
                  | none => none
                  | some e3 =>
                    if m1.length < 17592186044416 then
                      some (.inl ((m1 ++ [IntKind.i64.wrap (r1.1 + e3)]), IntKind.i64.wrap (z1 + 1)))
                    else
                      none
                else
                  some (.inr (.inr (([] : List Int), (⟨r1.2, z1⟩ : SFault))))
          | some (.inr rr1) =>
            some (.inr (.inr rr1))
      else
        none
    else
      some (.inr (.inl m1))
def net_Round.f (K : Nat) (l0 : List (List Int)) (x1 : Int) (l2 : List Int) : Option ((List Int) × SFault) :=
  match net_Round.p0 l0 l2 with
  | none => none
  | some (.inl _) =>
    match iter (net_Round.r1 K l0 x1 l2) K (([] : List Int), 0) with
    | none => none
    | some (.inl m3) =>
      some (m3, (⟨0, 0⟩ : SFault))
    | some (.inr rr2) =>
      some rr2
  | some (.inr rr3) =>
    some rr3
abbrev net_Round.A0 (K : Nat) (w0 : World) (l0 : List (List Int)) (hd0 : List Hdr) (A0 : Option Addr) (c0 : Nat) (x1 : Int) (l2 : List Int) (A2 : Option Addr) (c2 : Nat) (hR0 : RdL w0 A0 hd0) (hL0 : l0.length ≤ c0) (hN0 : NestL w0 hd0 l0) (hR2 : RdL w0 A2 l2) (hL2 : l2.length ≤ c2) (b1 : Nat) : Unit → Act → World → Prop := fun (s : Unit) a w => St w0 w [Own.blk b1 (.cells #[.int .i64 0, .int .i64 0] 31 (0, 0))] ∧ Frm 80 a [(0, .slice A0 l0.length c0), (1, .int .i64 x1), (2, .slice A2 l2.length c2), (7, .pointer (some ⟨b1, 0, none⟩))]
abbrev net_Round.B0 (K : Nat) (w0 : World) (l0 : List (List Int)) (hd0 : List Hdr) (A0 : Option Addr) (c0 : Nat) (x1 : Int) (l2 : List Int) (A2 : Option Addr) (c2 : Nat) (hR0 : RdL w0 A0 hd0) (hL0 : l0.length ≤ c0) (hN0 : NestL w0 hd0 l0) (hR2 : RdL w0 A2 l2) (hL2 : l2.length ≤ c2) (b1 : Nat) : ((List Int) × SFault) → Exit → Act → World → Prop := Rets Try.prog Try.f22 (net_Round.Post w0)
theorem net_Round_p0 (K : Nat) (w0 : World) (l0 : List (List Int)) (hd0 : List Hdr) (A0 : Option Addr) (c0 : Nat) (x1 : Int) (l2 : List Int) (A2 : Option Addr) (c2 : Nat) (hR0 : RdL w0 A0 hd0) (hL0 : l0.length ≤ c0) (hN0 : NestL w0 hd0 l0) (hR2 : RdL w0 A2 l2) (hL2 : l2.length ≤ c2) (b1 : Nat) (o : Unit ⊕ ((List Int) × SFault)) (h : net_Round.p0 l0 l2 = some o) (w : World) (hS : St w0 w [Own.blk b1 (.cells #[.int .i64 0, .int .i64 0] 31 (0, 0))]) (Q : Exit → Act → World → Prop) (hQ : ∀ x a w, Outs (net_Round.A0 K w0 l0 hd0 A0 c0 x1 l2 A2 c2 hR0 hL0 hN0 hR2 hL2 b1) (net_Round.B0 K w0 l0 hd0 A0 c0 x1 l2 A2 c2 hR0 hL0 hN0 hR2 hL2 b1) o x a w → Q x a w) : WE Try.prog 80 (subF Try.f22 [1, 0]) Q [(0, .slice A0 l0.length c0), (1, .int .i64 x1), (2, .slice A2 l2.length c2), (6, .slice none 0 0), (7, .pointer (some ⟨b1, 0, none⟩))] w := by
  simp only [net_Round.p0] at h
  refine we_seq fun K3 hK3 => ?_
  refine we_region [(0, 0), (1, 0), (2, 0), (3, 0), (4, 0), (5, 0), (6, 0), (7, 0), (8, 0), (9, 0), (10, 0), (11, 0), (12, 0), (13, 0), (14, 0)] rfl ?_
  refine ge_batch [0, 1, 2, 3] (ans := []) (vs := [(16, .bool (decide ((l0.length : Int) < 1))), (15, .bool (decide ((l0.length : Int) < 1))), (14, .int .i64 (l0.length : Int)), (13, .slice A0 l0.length c0)]) (l := []) (by kernel_rfl) trivial ?_
  by_cases hc1 : (l0.length : Int) < 1
  · rw [if_pos hc1] at h
    refine ge_known (t := 16) (b := decide ((l0.length : Int) < 1)) (c := true) (by kernel_rfl) (decide_eq_true hc1) ?_
    refine ge_batch [4, 5, 6, 7, 8, 9, 10, 11, 12, 13, 14] (ans := []) (vs := [(27, .bool true), (26, undef), (25, undef), (24, undef), (23, undef), (22, undef), (21, .bool true), (20, .bool true), (19, undef), (18, undef), (17, undef)]) (l := []) (by kernel_rfl) trivial ?_
    refine ge_nil fun a hF => hK3 _ _ ?_ a hF
    refine we_true (by kernel_rfl) ?_
    refine we_seq fun K4 hK4 => ?_
    refine we_region [(0, 0), (1, 0), (2, 2)] rfl ?_
    refine ge_batch [0, 1] (ans := []) (vs := [(6, .slice none 0 0), (28, .agg #[.int .i64 2, .int .i64 0])]) (l := []) (by kernel_rfl) trivial ?_
    refine ge_set (b := b1) (j := 0) (cs := #[.int .i64 0, .int .i64 0]) (t := 31) (vs := [.int .i64 2, .int .i64 0]) hS (by kernel_rfl) rfl rfl fun w2 hS2 => ?_
    have hS3 := hS2.nc #[.int .i64 2, .int .i64 0] (by kernel_rfl)
    refine ge_nil fun a hF => hK4 _ _ ?_ a hF
    have hS4 := hS3.nil (α := Int) 3
    have hS5 := hS4.takeN 1
    obtain rfl := Option.some.inj h
    exact we_ret fun a hF => hQ _ _ _ (Outs.out nofun ⟨rfl, (post_ret (rs := [.tmp 6, .cell 7 31]) (ans := [.val (.int .i64 2), .val (.int .i64 0)]) (vs := [(.slice none 0 0), .agg #[.int .i64 2, .int .i64 0]]) (l := [.loaded ⟨b1, 0, none⟩ (.int .i64 2), .loaded ⟨b1, 1, none⟩ (.int .i64 0)]) rfl (by kernel_rfl) ⟨hS4.cell 1 rfl rfl, hS4.cell 1 rfl rfl, trivial⟩ ⟨(.slice none 0 0), rfl, hS5⟩) a hF⟩)
  · rw [if_neg hc1] at h
    refine ge_known (t := 16) (b := decide ((l0.length : Int) < 1)) (c := false) (by kernel_rfl) (decide_eq_false hc1) ?_
    refine ge_batch [4, 5, 6, 7, 8] (ans := []) (vs := [(21, .bool (decide ((l0.length : Int) > 10))), (20, .bool (decide ((l0.length : Int) > 10))), (19, .bool (decide ((l0.length : Int) > 10))), (18, .int .i64 (l0.length : Int)), (17, .slice A0 l0.length c0)]) (l := []) (by kernel_rfl) trivial ?_
    by_cases hc2 : (l0.length : Int) > 10
    · rw [if_pos hc2] at h
      refine ge_known (t := 21) (b := decide ((l0.length : Int) > 10)) (c := true) (by kernel_rfl) (decide_eq_true hc2) ?_
      refine ge_batch [9, 10, 11, 12, 13, 14] (ans := []) (vs := [(27, .bool true), (26, undef), (25, undef), (24, undef), (23, undef), (22, undef)]) (l := []) (by kernel_rfl) trivial ?_
      refine ge_nil fun a hF => hK3 _ _ ?_ a hF
      refine we_true (by kernel_rfl) ?_
      refine we_seq fun K5 hK5 => ?_
      refine we_region [(0, 0), (1, 0), (2, 2)] rfl ?_
      refine ge_batch [0, 1] (ans := []) (vs := [(6, .slice none 0 0), (28, .agg #[.int .i64 2, .int .i64 0])]) (l := []) (by kernel_rfl) trivial ?_
      refine ge_set (b := b1) (j := 0) (cs := #[.int .i64 0, .int .i64 0]) (t := 31) (vs := [.int .i64 2, .int .i64 0]) hS (by kernel_rfl) rfl rfl fun w3 hS6 => ?_
      have hS7 := hS6.nc #[.int .i64 2, .int .i64 0] (by kernel_rfl)
      refine ge_nil fun a hF => hK5 _ _ ?_ a hF
      have hS8 := hS7.nil (α := Int) 3
      have hS9 := hS8.takeN 1
      obtain rfl := Option.some.inj h
      exact we_ret fun a hF => hQ _ _ _ (Outs.out nofun ⟨rfl, (post_ret (rs := [.tmp 6, .cell 7 31]) (ans := [.val (.int .i64 2), .val (.int .i64 0)]) (vs := [(.slice none 0 0), .agg #[.int .i64 2, .int .i64 0]]) (l := [.loaded ⟨b1, 0, none⟩ (.int .i64 2), .loaded ⟨b1, 1, none⟩ (.int .i64 0)]) rfl (by kernel_rfl) ⟨hS8.cell 1 rfl rfl, hS8.cell 1 rfl rfl, trivial⟩ ⟨(.slice none 0 0), rfl, hS9⟩) a hF⟩)
    · rw [if_neg hc2] at h
      refine ge_known (t := 21) (b := decide ((l0.length : Int) > 10)) (c := false) (by kernel_rfl) (decide_eq_false hc2) ?_
      refine ge_batch [9, 10, 11, 12, 13, 14] (ans := []) (vs := [(27, .bool ((l2.length : Int) != (l0.length : Int))), (26, .bool ((l2.length : Int) != (l0.length : Int))), (25, .int .i64 (l0.length : Int)), (24, .slice A0 l0.length c0), (23, .int .i64 (l2.length : Int)), (22, .slice A2 l2.length c2)]) (l := []) (by kernel_rfl) trivial ?_
      refine ge_nil fun a hF => hK3 _ _ ?_ a hF
      by_cases hc3 : (l2.length : Int) = (l0.length : Int)
      · rw [if_pos hc3] at h
        refine we_known (t := 27) (b := ((l2.length : Int) != (l0.length : Int))) (v := false) (by kernel_rfl) (bne_eq_false_iff_eq.2 hc3) ?_
        refine we_false (by kernel_rfl) ?_
        obtain rfl := Option.some.inj h
        exact we_skip fun a hF => hQ _ _ _ (Outs.again ⟨hS, hF.weaken ⟨by kernel_rfl, by kernel_rfl, by kernel_rfl, by kernel_rfl, trivial⟩⟩)
      · rw [if_neg hc3] at h
        refine we_known (t := 27) (b := ((l2.length : Int) != (l0.length : Int))) (v := true) (by kernel_rfl) (bne_iff_ne.2 hc3) ?_
        refine we_true (by kernel_rfl) ?_
        refine we_seq fun K6 hK6 => ?_
        refine we_region [(0, 0), (1, 0), (2, 2)] rfl ?_
        refine ge_batch [0, 1] (ans := []) (vs := [(6, .slice none 0 0), (28, .agg #[.int .i64 2, .int .i64 0])]) (l := []) (by kernel_rfl) trivial ?_
        refine ge_set (b := b1) (j := 0) (cs := #[.int .i64 0, .int .i64 0]) (t := 31) (vs := [.int .i64 2, .int .i64 0]) hS (by kernel_rfl) rfl rfl fun w4 hS10 => ?_
        have hS11 := hS10.nc #[.int .i64 2, .int .i64 0] (by kernel_rfl)
        refine ge_nil fun a hF => hK6 _ _ ?_ a hF
        have hS12 := hS11.nil (α := Int) 3
        have hS13 := hS12.takeN 1
        obtain rfl := Option.some.inj h
        exact we_ret fun a hF => hQ _ _ _ (Outs.out nofun ⟨rfl, (post_ret (rs := [.tmp 6, .cell 7 31]) (ans := [.val (.int .i64 2), .val (.int .i64 0)]) (vs := [(.slice none 0 0), .agg #[.int .i64 2, .int .i64 0]]) (l := [.loaded ⟨b1, 0, none⟩ (.int .i64 2), .loaded ⟨b1, 1, none⟩ (.int .i64 0)]) rfl (by kernel_rfl) ⟨hS12.cell 1 rfl rfl, hS12.cell 1 rfl rfl, trivial⟩ ⟨(.slice none 0 0), rfl, hS13⟩) a hF⟩)
abbrev net_Round.A2 (K : Nat) (w0 : World) (l0 : List (List Int)) (hd0 : List Hdr) (A0 : Option Addr) (c0 : Nat) (x1 : Int) (l2 : List Int) (A2 : Option Addr) (c2 : Nat) (hR0 : RdL w0 A0 hd0) (hL0 : l0.length ≤ c0) (hN0 : NestL w0 hd0 l0) (hR2 : RdL w0 A2 l2) (hL2 : l2.length ≤ c2) (b1 : Nat) (m1 : List Int) (z1 : Int) (hc4 : z1 < (l0.length : Int)) (hc5 : 0 ≤ z1) (e1 : List Int) (hx2 : l0[(z1).toNat]? = some e1) (An1 : Option Addr) (cn1 : Nat) (hxn1 : hd0[(z1).toNat]? = some ⟨An1, e1.length, cn1⟩) (hRn1 : RdL w0 An1 e1) (hLn1 : e1.length ≤ cn1) (Z1 : Option Addr) (cz1 : Nat) : Bool → Act → World → Prop := fun (s : Bool) a w => St w0 w [Own.blk b1 (.cells #[.int .i64 0, .int .i64 0] 31 (0, 0)), Own.of (.slice Z1 m1.length cz1) 3 m1] ∧ Frm 80 a [(0, .slice A0 l0.length c0), (1, .int .i64 x1), (2, .slice A2 l2.length c2), (7, .pointer (some ⟨b1, 0, none⟩)), (8, (.slice Z1 m1.length cz1)), (9, .int .i64 z1), (10, .slice An1 e1.length cn1), (29, .slice A0 l0.length c0), (30, .int .i64 (l0.length : Int)), (31, .int .i64 z1), (54, .bool s)]
abbrev net_Round.B2 (K : Nat) (w0 : World) (l0 : List (List Int)) (hd0 : List Hdr) (A0 : Option Addr) (c0 : Nat) (x1 : Int) (l2 : List Int) (A2 : Option Addr) (c2 : Nat) (hR0 : RdL w0 A0 hd0) (hL0 : l0.length ≤ c0) (hN0 : NestL w0 hd0 l0) (hR2 : RdL w0 A2 l2) (hL2 : l2.length ≤ c2) (b1 : Nat) (m1 : List Int) (z1 : Int) (hc4 : z1 < (l0.length : Int)) (hc5 : 0 ≤ z1) (e1 : List Int) (hx2 : l0[(z1).toNat]? = some e1) (An1 : Option Addr) (cn1 : Nat) (hxn1 : hd0[(z1).toNat]? = some ⟨An1, e1.length, cn1⟩) (hRn1 : RdL w0 An1 e1) (hLn1 : e1.length ≤ cn1) (Z1 : Option Addr) (cz1 : Nat) : ((List Int) × SFault) → Exit → Act → World → Prop := Rets Try.prog Try.f22 (net_Round.Post w0)
theorem net_Round_p2 (K : Nat) (w0 : World) (l0 : List (List Int)) (hd0 : List Hdr) (A0 : Option Addr) (c0 : Nat) (x1 : Int) (l2 : List Int) (A2 : Option Addr) (c2 : Nat) (hR0 : RdL w0 A0 hd0) (hL0 : l0.length ≤ c0) (hN0 : NestL w0 hd0 l0) (hR2 : RdL w0 A2 l2) (hL2 : l2.length ≤ c2) (b1 : Nat) (m1 : List Int) (z1 : Int) (hc4 : z1 < (l0.length : Int)) (hc5 : 0 ≤ z1) (e1 : List Int) (hx2 : l0[(z1).toNat]? = some e1) (An1 : Option Addr) (cn1 : Nat) (hxn1 : hd0[(z1).toNat]? = some ⟨An1, e1.length, cn1⟩) (hRn1 : RdL w0 An1 e1) (hLn1 : e1.length ≤ cn1) (Z1 : Option Addr) (cz1 : Nat) (o : Bool ⊕ ((List Int) × SFault)) (h : net_Round.p2 l0 l2 z1 e1 = some o) (w : World) (hS : St w0 w [Own.blk b1 (.cells #[.int .i64 0, .int .i64 0] 31 (0, 0)), Own.of (.slice Z1 m1.length cz1) 3 m1]) (Q : Exit → Act → World → Prop) (hQ : ∀ x a w, Outs (net_Round.A2 K w0 l0 hd0 A0 c0 x1 l2 A2 c2 hR0 hL0 hN0 hR2 hL2 b1 m1 z1 hc4 hc5 e1 hx2 An1 cn1 hxn1 hRn1 hLn1 Z1 cz1) (net_Round.B2 K w0 l0 hd0 A0 c0 x1 l2 A2 c2 hR0 hL0 hN0 hR2 hL2 b1 m1 z1 hc4 hc5 e1 hx2 An1 cn1 hxn1 hRn1 hLn1 Z1 cz1) o x a w → Q x a w) : WE Try.prog 80 (subF Try.f22 [1, 1, 1, 0, 1, 0, 0, 1, 1, 0, 0, 1, 0, 0]) Q [(0, .slice A0 l0.length c0), (1, .int .i64 x1), (2, .slice A2 l2.length c2), (7, .pointer (some ⟨b1, 0, none⟩)), (8, (.slice Z1 m1.length cz1)), (9, .int .i64 z1), (10, .slice An1 e1.length cn1), (29, .slice A0 l0.length c0), (30, .int .i64 (l0.length : Int)), (31, .int .i64 z1), (32, .bool true), (33, .int .i64 z1), (34, .pointer (some ⟨blkOf A0, offOf A0 + (z1).toNat * 1, none⟩)), (35, .slice An1 e1.length cn1)] w := by
  simp only [net_Round.p2] at h
  refine we_region [(0, 0), (1, 0), (2, 0), (3, 0), (4, 0), (5, 0), (6, 0), (7, 0), (8, 0), (9, 0), (10, 0), (11, 0), (12, 0), (13, 0), (14, 0), (15, 0), (16, 0), (17, 0), (18, 0)] rfl ?_
  refine ge_batch [0, 1, 2, 3, 4, 5] (ans := []) (vs := [(41, .bool ((e1.length : Int) != (l0.length : Int))), (40, .bool ((e1.length : Int) != (l0.length : Int))), (39, .int .i64 (l0.length : Int)), (38, .slice A0 l0.length c0), (37, .int .i64 (e1.length : Int)), (36, .slice An1 e1.length cn1)]) (l := []) (by kernel_rfl) trivial ?_
  by_cases hc6 : (e1.length : Int) = (l0.length : Int)
  · rw [if_pos hc6] at h
    refine ge_known (t := 41) (b := ((e1.length : Int) != (l0.length : Int))) (c := false) (by kernel_rfl) (bne_eq_false_iff_eq.2 hc6) ?_
    refine ge_batch [6, 7] (ans := []) (vs := [(43, .int .i64 z1), (42, .slice A2 l2.length c2)]) (l := []) (by kernel_rfl) trivial ?_
    rcases hx3 : l2[(z1).toNat]? with _ | e2
    · rw [hx3] at h; cases h
    rw [hx3] at h
    simp only [] at h
    refine ge_index (d := 44) (ty := 0) (t := 26) (el := 3) (sz := 1) (m := l2.length) (c := c2) (x := (.tmp 42)) (y := (.tmp 43)) (A := A2) (k' := .i64) (j := z1) (jn := ((z1).toNat)) (b0 := blkOf A2) (o0 := offOf A2) (by kernel_rfl) (by kernel_rfl) (by kernel_rfl) (by kernel_rfl) (by kernel_rfl) ((hS.rd hR2).eqSome (pos_of_get hx3)) (Int.toNat_of_nonneg hc5).symm (lt_of_get hx3) ?_
    refine ge_batch [9, 10, 11, 12] (ans := [.val (.int .i64 e2)]) (vs := [(48, .bool (decide (e2 < (-1099511627776)))), (47, .bool (decide (e2 < (-1099511627776)))), (46, .bool (decide (e2 < (-1099511627776)))), (45, .int .i64 e2)]) (l := [.loaded ⟨blkOf A2, offOf A2 + ((z1).toNat) * 1, none⟩ (.int .i64 e2)]) (by kernel_rfl) ⟨RdL.cell (j := 0) (hS.rd hR2) hx3 rfl, trivial⟩ ?_
    by_cases hc7 : e2 < (-1099511627776)
    · rw [if_pos hc7] at h
      refine ge_known (t := 48) (b := decide (e2 < (-1099511627776))) (c := true) (by kernel_rfl) (decide_eq_true hc7) ?_
      refine ge_batch [13, 14, 15, 16, 17, 18] (ans := []) (vs := [(54, .bool true), (53, undef), (52, undef), (51, undef), (50, undef), (49, undef)]) (l := []) (by kernel_rfl) trivial ?_
      have hS17 := hS.bring 1 rfl
      have hS18 := hS17.bring 1 rfl
      obtain rfl := Option.some.inj h
      exact ge_nil fun a hF => hQ _ _ _ (Outs.again ⟨hS18, hF.weaken ⟨by kernel_rfl, by kernel_rfl, by kernel_rfl, by kernel_rfl, by kernel_rfl, by kernel_rfl, by kernel_rfl, by kernel_rfl, by kernel_rfl, by kernel_rfl, by kernel_rfl, trivial⟩⟩)
    · rw [if_neg hc7] at h
      refine ge_known (t := 48) (b := decide (e2 < (-1099511627776))) (c := false) (by kernel_rfl) (decide_eq_false hc7) ?_
      refine ge_batch [13, 14] (ans := []) (vs := [(50, .int .i64 z1), (49, .slice A2 l2.length c2)]) (l := []) (by kernel_rfl) trivial ?_
      refine ge_index (d := 51) (ty := 0) (t := 26) (el := 3) (sz := 1) (m := l2.length) (c := c2) (x := (.tmp 49)) (y := (.tmp 50)) (A := A2) (k' := .i64) (j := z1) (jn := ((z1).toNat)) (b0 := blkOf A2) (o0 := offOf A2) (by kernel_rfl) (by kernel_rfl) (by kernel_rfl) (by kernel_rfl) (by kernel_rfl) ((hS.rd hR2).eqSome (pos_of_get hx3)) (Int.toNat_of_nonneg hc5).symm (lt_of_get hx3) ?_
      refine ge_batch [16, 17, 18] (ans := [.val (.int .i64 e2)]) (vs := [(54, .bool (decide (e2 > 1099511627776))), (53, .bool (decide (e2 > 1099511627776))), (52, .int .i64 e2)]) (l := [.loaded ⟨blkOf A2, offOf A2 + ((z1).toNat) * 1, none⟩ (.int .i64 e2)]) (by kernel_rfl) ⟨RdL.cell (j := 0) (hS.rd hR2) hx3 rfl, trivial⟩ ?_
      have hS19 := hS.bring 1 rfl
      have hS20 := hS19.bring 1 rfl
      obtain rfl := Option.some.inj h
      exact ge_nil fun a hF => hQ _ _ _ (Outs.again ⟨hS20, hF.weaken ⟨by kernel_rfl, by kernel_rfl, by kernel_rfl, by kernel_rfl, by kernel_rfl, by kernel_rfl, by kernel_rfl, by kernel_rfl, by kernel_rfl, by kernel_rfl, by kernel_rfl, trivial⟩⟩)
  · rw [if_neg hc6] at h
    refine ge_known (t := 41) (b := ((e1.length : Int) != (l0.length : Int))) (c := true) (by kernel_rfl) (bne_iff_ne.2 hc6) ?_
    refine ge_batch [6, 7, 8, 9, 10, 11, 12, 13, 14, 15, 16, 17, 18] (ans := []) (vs := [(54, .bool true), (53, undef), (52, undef), (51, undef), (50, undef), (49, undef), (48, .bool true), (47, .bool true), (46, undef), (45, undef), (44, undef), (43, undef), (42, undef)]) (l := []) (by kernel_rfl) trivial ?_
    have hS21 := hS.bring 1 rfl
    have hS22 := hS21.bring 1 rfl
    obtain rfl := Option.some.inj h
    exact ge_nil fun a hF => hQ _ _ _ (Outs.again ⟨hS22, hF.weaken ⟨by kernel_rfl, by kernel_rfl, by kernel_rfl, by kernel_rfl, by kernel_rfl, by kernel_rfl, by kernel_rfl, by kernel_rfl, by kernel_rfl, by kernel_rfl, by kernel_rfl, trivial⟩⟩)
abbrev net_Round.A1 (K : Nat) (w0 : World) (l0 : List (List Int)) (hd0 : List Hdr) (A0 : Option Addr) (c0 : Nat) (x1 : Int) (l2 : List Int) (A2 : Option Addr) (c2 : Nat) (hR0 : RdL w0 A0 hd0) (hL0 : l0.length ≤ c0) (hN0 : NestL w0 hd0 l0) (hR2 : RdL w0 A2 l2) (hL2 : l2.length ≤ c2) (b1 : Nat) : ((List Int) × Int) → Act → World → Prop := fun (s : (List Int) × Int) a w => ∃ (v1 : Value), St w0 w [Own.blk b1 (.cells #[.int .i64 0, .int .i64 0] 31 (0, 0)), Own.of v1 3 s.1] ∧ Frm 80 a [(0, .slice A0 l0.length c0), (1, .int .i64 x1), (2, .slice A2 l2.length c2), (7, .pointer (some ⟨b1, 0, none⟩)), (8, v1), (29, .slice A0 l0.length c0), (30, .int .i64 (l0.length : Int)), (31, .int .i64 s.2)]
abbrev net_Round.B1 (K : Nat) (w0 : World) (l0 : List (List Int)) (hd0 : List Hdr) (A0 : Option Addr) (c0 : Nat) (x1 : Int) (l2 : List Int) (A2 : Option Addr) (c2 : Nat) (hR0 : RdL w0 A0 hd0) (hL0 : l0.length ≤ c0) (hN0 : NestL w0 hd0 l0) (hR2 : RdL w0 A2 l2) (hL2 : l2.length ≤ c2) (b1 : Nat) : ((List Int) ⊕ ((List Int) × SFault)) → Exit → Act → World → Prop := Exits 0 (fun (s : (List Int)) a w => ∃ (v2 : Value), St w0 w [Own.blk b1 (.cells #[.int .i64 0, .int .i64 0] 31 (0, 0)), Own.of v2 3 s] ∧ Frm 80 a [(7, .pointer (some ⟨b1, 0, none⟩)), (8, v2)]) (Rets Try.prog Try.f22 (net_Round.Post w0))
theorem net_Round_r1 (K : Nat) (w0 : World) (l0 : List (List Int)) (hd0 : List Hdr) (A0 : Option Addr) (c0 : Nat) (x1 : Int) (l2 : List Int) (A2 : Option Addr) (c2 : Nat) (hR0 : RdL w0 A0 hd0) (hL0 : l0.length ≤ c0) (hN0 : NestL w0 hd0 l0) (hR2 : RdL w0 A2 l2) (hL2 : l2.length ≤ c2) (b1 : Nat) (s : (List Int) × Int) (o : ((List Int) × Int) ⊕ ((List Int) ⊕ ((List Int) × SFault))) (h : net_Round.r1 K l0 x1 l2 s = some o) (a : Act) (w : World) (hA : net_Round.A1 K w0 l0 hd0 A0 c0 x1 l2 A2 c2 hR0 hL0 hN0 hR2 hL2 b1 s a w) (Q : Exit → Act → World → Prop) (hQ : ∀ x a w, Outs (net_Round.A1 K w0 l0 hd0 A0 c0 x1 l2 A2 c2 hR0 hL0 hN0 hR2 hL2 b1) (net_Round.B1 K w0 l0 hd0 A0 c0 x1 l2 A2 c2 hR0 hL0 hN0 hR2 hL2 b1) o x a w → Q x a w) : (subF Try.f22 [1, 1, 1, 0, 1, 0, 0]).wp Try.prog Q a w := by
  obtain ⟨m1, z1⟩ := s
  obtain ⟨v1, hS, hF⟩ := hA
  replace hS : St w0 w [Own.blk b1 (.cells #[.int .i64 0, .int .i64 0] 31 (0, 0)), Own.of v1 3 m1] := hS
  simp only [net_Round.r1] at h
  refine (?_ : WE Try.prog 80 (subF Try.f22 [1, 1, 1, 0, 1, 0, 0]) Q [(0, .slice A0 l0.length c0), (1, .int .i64 x1), (2, .slice A2 l2.length c2), (7, .pointer (some ⟨b1, 0, none⟩)), (8, v1), (29, .slice A0 l0.length c0), (30, .int .i64 (l0.length : Int)), (31, .int .i64 z1)] w) a hF
  clear hF a
  refine we_seq fun K10 hK10 => ?_
  refine we_region [(0, 0)] rfl ?_
  refine ge_batch [0] (ans := []) (vs := [(32, .bool (decide (z1 < (l0.length : Int))))]) (l := []) (by kernel_rfl) trivial ?_
  refine ge_nil fun a hF => hK10 _ _ ?_ a hF
  refine we_seq fun K11 hK11 => ?_
  by_cases hc4 : z1 < (l0.length : Int)
  · rw [if_pos hc4] at h
    refine we_known (t := 32) (b := decide (z1 < (l0.length : Int))) (v := true) (by kernel_rfl) (decide_eq_true hc4) ?_
    refine we_true (by kernel_rfl) ?_
    refine we_skip fun a hF => hK11 _ _ ?_ a hF
    refine we_seq fun K12 hK12 => ?_
    refine we_block ?_
    refine we_seq fun K13 hK13 => ?_
    refine we_region [(0, 0), (1, 0), (2, 0), (3, 0), (4, 0)] rfl ?_
    refine ge_batch [0] (ans := []) (vs := [(33, .int .i64 z1)]) (l := []) (by kernel_rfl) trivial ?_
    by_cases hc5 : 0 ≤ z1
    · rw [if_pos hc5] at h
      rcases hx2 : l0[(z1).toNat]? with _ | e1
      · rw [hx2] at h; cases h
      rw [hx2] at h
      simp only [] at h
      obtain ⟨An1, cn1, hxn1, hRn1, hLn1⟩ := hN0.get hx2
      refine ge_index (d := 34) (ty := 0) (t := 51) (el := 26) (sz := 1) (m := l0.length) (c := c0) (x := (.tmp 29)) (y := (.tmp 31)) (A := A0) (k' := .i64) (j := z1) (jn := ((z1).toNat)) (b0 := blkOf A0) (o0 := offOf A0) (by kernel_rfl) (by kernel_rfl) (by kernel_rfl) (by kernel_rfl) (by kernel_rfl) ((hS.rd hR0).eqSome (pos_of_get hxn1)) (Int.toNat_of_nonneg hc5).symm (lt_of_get hx2) ?_
      refine ge_batch [2, 3, 4] (ans := [.val (.slice An1 e1.length cn1)]) (vs := [(10, .slice An1 e1.length cn1), (9, .int .i64 z1), (35, .slice An1 e1.length cn1)]) (l := [.loaded ⟨blkOf A0, offOf A0 + ((z1).toNat) * 1, none⟩ (.slice An1 e1.length cn1)]) (by kernel_rfl) ⟨RdL.cell (j := 0) (hS.rd hR0) hxn1 rfl, trivial⟩ ?_
      refine ge_nil fun a hF => hK13 _ _ ?_ a hF
      refine we_seq fun K14 hK14 => ?_
      refine we_seq fun K15 hK15 => ?_
      obtain ⟨Z1, cz1, rfl⟩ := hS.open 1 rfl
      rcases hq2 : net_Round.p2 l0 l2 z1 e1 with _ | (q2 | rr1)
      · rw [hq2] at h; cases h
      · rw [hq2] at h
        simp only [] at h
        refine we_keep (e' := [(0, .slice A0 l0.length c0), (1, .int .i64 x1), (2, .slice A2 l2.length c2), (7, .pointer (some ⟨b1, 0, none⟩)), (8, (.slice Z1 m1.length cz1)), (9, .int .i64 z1), (10, .slice An1 e1.length cn1), (29, .slice A0 l0.length c0), (30, .int .i64 (l0.length : Int)), (31, .int .i64 z1), (32, .bool true), (33, .int .i64 z1), (34, .pointer (some ⟨blkOf A0, offOf A0 + (z1).toNat * 1, none⟩)), (35, .slice An1 e1.length cn1)]) ⟨by kernel_rfl, by kernel_rfl, by kernel_rfl, by kernel_rfl, by kernel_rfl, by kernel_rfl, by kernel_rfl, by kernel_rfl, by kernel_rfl, by kernel_rfl, by kernel_rfl, by kernel_rfl, by kernel_rfl, by kernel_rfl, trivial⟩ (net_Round_p2 K w0 l0 hd0 A0 c0 x1 l2 A2 c2 hR0 hL0 hN0 hR2 hL2 b1 m1 z1 hc4 hc5 e1 hx2 An1 cn1 hxn1 hRn1 hLn1 Z1 cz1 _ hq2 _ hS _ ?_)
        rintro _ a w6 ⟨rfl, hS23, hF⟩
        replace hS23 : St w0 w6 [Own.blk b1 (.cells #[.int .i64 0, .int .i64 0] 31 (0, 0)), Own.of (.slice Z1 m1.length cz1) 3 m1] := hS23
        refine hK15 [(0, .slice A0 l0.length c0), (1, .int .i64 x1), (2, .slice A2 l2.length c2), (7, .pointer (some ⟨b1, 0, none⟩)), (8, (.slice Z1 m1.length cz1)), (9, .int .i64 z1), (10, .slice An1 e1.length cn1), (29, .slice A0 l0.length c0), (30, .int .i64 (l0.length : Int)), (31, .int .i64 z1), (54, .bool q2)] w6 ?_ a hF
        by_cases hc8 : q2 = true
        · rw [if_pos hc8] at h
          refine we_known (t := 54) (b := q2) (v := true) (by kernel_rfl) hc8 ?_
          refine we_true (by kernel_rfl) ?_
          refine we_seq fun K16 hK16 => ?_
          refine we_region [(0, 0), (1, 0), (2, 0), (3, 2)] rfl ?_
          refine ge_batch [0, 1, 2] (ans := []) (vs := [(6, .slice none 0 0), (56, .agg #[.int .i64 3, .int .i64 z1]), (55, .int .i64 z1)]) (l := []) (by kernel_rfl) trivial ?_
          refine ge_set (b := b1) (j := 0) (cs := #[.int .i64 0, .int .i64 0]) (t := 31) (vs := [.int .i64 3, .int .i64 z1]) hS23 (by kernel_rfl) rfl rfl fun w7 hS24 => ?_
          have hS25 := hS24.nc #[.int .i64 3, .int .i64 z1] (by kernel_rfl)
          refine ge_nil fun a hF => hK16 _ _ ?_ a hF
          have hS26 := hS25.nil (α := Int) 3
          have hS27 := hS26.takeN 1
          obtain rfl := Option.some.inj h
          exact we_ret fun a hF => hQ _ _ _ (Outs.out nofun (Exits.on ⟨rfl, (post_ret (rs := [.tmp 6, .cell 7 31]) (ans := [.val (.int .i64 3), .val (.int .i64 z1)]) (vs := [(.slice none 0 0), .agg #[.int .i64 3, .int .i64 z1]]) (l := [.loaded ⟨b1, 0, none⟩ (.int .i64 3), .loaded ⟨b1, 1, none⟩ (.int .i64 z1)]) rfl (by kernel_rfl) ⟨hS26.cell 1 rfl rfl, hS26.cell 1 rfl rfl, trivial⟩ ⟨(.slice none 0 0), rfl, hS27⟩) a hF⟩))
        · rw [if_neg hc8] at h
          refine we_known (t := 54) (b := q2) (v := false) (by kernel_rfl) (Bool.eq_false_iff.2 hc8) ?_
          refine we_false (by kernel_rfl) ?_
          refine we_skip fun a hF => hK14 _ _ ?_ a hF
          refine we_seq fun K17 hK17 => ?_
          refine we_region [(0, 0), (1, 0), (2, 1), (3, 0), (4, 0), (5, 0), (6, 0), (7, 0)] rfl ?_
          rcases hq3 : net_Middle.f K e1 x1 with _ | r1
          · rw [hq3] at h; cases h
          rw [hq3] at h
          simp only [] at h
          refine ge_batch [0, 1] (ans := []) (vs := [(59, .int .i64 x1), (58, .slice An1 e1.length cn1)]) (l := []) (by kernel_rfl) trivial ?_
          refine ge_call (d := some 60) (f := 28) (args := #[.slice An1 e1.length cn1, .int .i64 x1]) (by kernel_rfl) (net_Middle_ok K e1 An1 cn1 x1 _ (hS23.rd hRn1) hLn1 _ hq3) ?_
          rintro _ w8 ⟨rfl, hS28⟩
          refine ⟨_, rfl, hS28.below, ?_⟩
          have hS29 := hS23.call hS28
          refine ge_batch [3, 4, 5, 6, 7] (ans := []) (vs := [(12, .int .i64 r1.2), (11, .int .i64 r1.1), (62, .int .i64 r1.2), (61, .int .i64 r1.1), (57, .tuple #[.int .i64 r1.1, .int .i64 r1.2])]) (l := []) (by kernel_rfl) trivial ?_
          refine ge_nil fun a hF => hK17 _ _ ?_ a hF
          refine we_seq fun K18 hK18 => ?_
          refine we_seq fun K19 hK19 => ?_
          refine we_region [(0, 0), (1, 0)] rfl ?_
          refine ge_batch [0, 1] (ans := []) (vs := [(64, .bool (r1.2 != 0)), (63, .int .i64 r1.2)]) (l := []) (by kernel_rfl) trivial ?_
          refine ge_nil fun a hF => hK19 _ _ ?_ a hF
          by_cases hc9 : r1.2 = 0
          · rw [if_pos hc9] at h
            refine we_known (t := 64) (b := (r1.2 != 0)) (v := false) (by kernel_rfl) (bne_eq_false_iff_eq.2 hc9) ?_
            refine we_false (by kernel_rfl) ?_
            refine we_skip fun a hF => hK18 _ _ ?_ a hF
            refine we_region [(0, 0), (1, 0), (2, 0), (3, 0), (4, 0), (5, 0), (6, 0), (7, 1), (8, 2), (9, 0)] rfl ?_
            refine ge_batch [0, 1, 2, 3] (ans := []) (vs := [(71, .int .i64 z1), (70, .slice A2 l2.length c2), (69, .int .i64 r1.1), (68, (.slice Z1 m1.length cz1))]) (l := []) (by kernel_rfl) trivial ?_
            rcases hx4 : l2[(z1).toNat]? with _ | e3
            · rw [hx4] at h; cases h
            rw [hx4] at h
            simp only [] at h
            refine ge_index (d := 72) (ty := 0) (t := 26) (el := 3) (sz := 1) (m := l2.length) (c := c2) (x := (.tmp 70)) (y := (.tmp 71)) (A := A2) (k' := .i64) (j := z1) (jn := ((z1).toNat)) (b0 := blkOf A2) (o0 := offOf A2) (by kernel_rfl) (by kernel_rfl) (by kernel_rfl) (by kernel_rfl) (by kernel_rfl) ((hS29.rd hR2).eqSome (pos_of_get hx4)) (Int.toNat_of_nonneg hc5).symm (lt_of_get hx4) ?_
            refine ge_batch [5, 6] (ans := [.val (.int .i64 e3)]) (vs := [(74, .int .i64 (IntKind.i64.wrap (r1.1 + e3))), (73, .int .i64 e3)]) (l := [.loaded ⟨blkOf A2, offOf A2 + ((z1).toNat) * 1, none⟩ (.int .i64 e3)]) (by kernel_rfl) ⟨RdL.cell (j := 0) (hS29.rd hR2) hx4 rfl, trivial⟩ ?_
            refine ge_new (d := some 75) (o := .cells #[.int .i64 (IntKind.i64.wrap (r1.1 + e3))] 3) (v := fun b => .slice (some ⟨b, 0, none⟩) 1 1) hS29 (fun b => by kernel_rfl) fun b2 w9 hx5 hS30 => ?_
            have hS31 := hS30.bring 2 rfl
            by_cases hc10 : m1.length < 17592186044416
            · rw [if_pos hc10] at h
              refine ge_append (α := Int) (m := 0) (d := 76) (t := 26) (el := 3) (bytes := 8) (c1 := 1) (b1 := b2) (x := (.tmp 68)) (y := (.tmp 75)) (ty := 26) (v := (.slice Z1 m1.length cz1)) (z := .int .i64 0) (l := m1) (u := (IntKind.i64.wrap (r1.1 + e3))) (by kernel_rfl) (by kernel_rfl) (by kernel_rfl) (by kernel_rfl) (by kernel_rfl) rfl hS31 rfl (by omega) fun v3 w10 hS32 => ?_
              refine ge_batch [9] (ans := []) (vs := [(8, v3)]) (l := []) (by kernel_rfl) trivial ?_
              refine ge_nil fun a hF => hK12 _ _ ?_ a hF
              refine we_region [(0, 0), (1, 0)] rfl ?_
              refine ge_batch [0, 1] (ans := []) (vs := [(31, .int .i64 (IntKind.i64.wrap (z1 + 1))), (77, .int .i64 (IntKind.i64.wrap (z1 + 1)))]) (l := []) (by kernel_rfl) trivial ?_
              have hS33 := hS32.bring 1 rfl
              obtain rfl := Option.some.inj h
              exact ge_nil fun a hF => hQ _ _ _ (Outs.again ⟨v3, hS33, hF.weaken ⟨by kernel_rfl, by kernel_rfl, by kernel_rfl, by kernel_rfl, by kernel_rfl, by kernel_rfl, by kernel_rfl, by kernel_rfl, trivial⟩⟩)
            · rw [if_neg hc10] at h
              cases h
          · rw [if_neg hc9] at h
            refine we_known (t := 64) (b := (r1.2 != 0)) (v := true) (by kernel_rfl) (bne_iff_ne.2 hc9) ?_
            refine we_true (by kernel_rfl) ?_
            refine we_seq fun K20 hK20 => ?_
            refine we_region [(0, 0), (1, 0), (2, 0), (3, 0), (4, 2)] rfl ?_
            refine ge_batch [0, 1, 2, 3] (ans := []) (vs := [(6, .slice none 0 0), (67, .agg #[.int .i64 r1.2, .int .i64 z1]), (66, .int .i64 z1), (65, .int .i64 r1.2)]) (l := []) (by kernel_rfl) trivial ?_
            refine ge_set (b := b1) (j := 0) (cs := #[.int .i64 0, .int .i64 0]) (t := 31) (vs := [.int .i64 r1.2, .int .i64 z1]) hS29 (by kernel_rfl) rfl rfl fun w11 hS34 => ?_
            have hS35 := hS34.nc #[.int .i64 r1.2, .int .i64 z1] (by kernel_rfl)
            refine ge_nil fun a hF => hK20 _ _ ?_ a hF
            have hS36 := hS35.nil (α := Int) 3
            have hS37 := hS36.takeN 1
            obtain rfl := Option.some.inj h
            exact we_ret fun a hF => hQ _ _ _ (Outs.out nofun (Exits.on ⟨rfl, (post_ret (rs := [.tmp 6, .cell 7 31]) (ans := [.val (.int .i64 r1.2), .val (.int .i64 z1)]) (vs := [(.slice none 0 0), .agg #[.int .i64 r1.2, .int .i64 z1]]) (l := [.loaded ⟨b1, 0, none⟩ (.int .i64 r1.2), .loaded ⟨b1, 1, none⟩ (.int .i64 z1)]) rfl (by kernel_rfl) ⟨hS36.cell 1 rfl rfl, hS36.cell 1 rfl rfl, trivial⟩ ⟨(.slice none 0 0), rfl, hS37⟩) a hF⟩))
      · rw [hq2] at h
        simp only [] at h
        refine we_keep (e' := [(0, .slice A0 l0.length c0), (1, .int .i64 x1), (2, .slice A2 l2.length c2), (7, .pointer (some ⟨b1, 0, none⟩)), (8, (.slice Z1 m1.length cz1)), (9, .int .i64 z1), (10, .slice An1 e1.length cn1), (29, .slice A0 l0.length c0), (30, .int .i64 (l0.length : Int)), (31, .int .i64 z1), (32, .bool true), (33, .int .i64 z1), (34, .pointer (some ⟨blkOf A0, offOf A0 + (z1).toNat * 1, none⟩)), (35, .slice An1 e1.length cn1)]) ⟨by kernel_rfl, by kernel_rfl, by kernel_rfl, by kernel_rfl, by kernel_rfl, by kernel_rfl, by kernel_rfl, by kernel_rfl, by kernel_rfl, by kernel_rfl, by kernel_rfl, by kernel_rfl, by kernel_rfl, by kernel_rfl, trivial⟩ (net_Round_p2 K w0 l0 hd0 A0 c0 x1 l2 A2 c2 hR0 hL0 hN0 hR2 hL2 b1 m1 z1 hc4 hc5 e1 hx2 An1 cn1 hxn1 hRn1 hLn1 Z1 cz1 _ hq2 _ hS _ ?_)
        rintro _ a w1 ⟨_, rfl, hb⟩
        obtain rfl := Option.some.inj h
        exact hQ _ _ _ (Outs.out nofun (Exits.on ⟨rfl, hb⟩))
    · rw [if_neg hc5] at h
      cases h
  · rw [if_neg hc4] at h
    refine we_known (t := 32) (b := decide (z1 < (l0.length : Int))) (v := false) (by kernel_rfl) (decide_eq_false hc4) ?_
    refine we_false (by kernel_rfl) ?_
    have hS38 := hS.bring 1 rfl
    have hS39 := hS38.bring 1 rfl
    obtain rfl := Option.some.inj h
    exact we_exit fun a hF => hQ _ _ _ (Outs.out nofun (Exits.here ⟨v1, hS39, hF.weaken ⟨by kernel_rfl, by kernel_rfl, trivial⟩⟩))
theorem net_Round_ok (K : Nat) (l0 : List (List Int)) (hd0 : List Hdr) (A0 : Option Addr) (c0 : Nat) (x1 : Int) (l2 : List Int) (A2 : Option Addr) (c2 : Nat) (w0 : World) (hR0 : RdL w0 A0 hd0) (hL0 : l0.length ≤ c0) (hN0 : NestL w0 hd0 l0) (hR2 : RdL w0 A2 l2) (hL2 : l2.length ≤ c2) (r : (List Int) × SFault) (h : net_Round.f K l0 x1 l2 = some r) :
    Calls Try.prog 22 #[.slice A0 l0.length c0, .int .i64 x1, .slice A2 l2.length c2] w0 (net_Round.Post w0 r) := by
  have hS := St.start w0
  unfold net_Round.f at h
  refine calls_enter (n := 80) (args := [.slice A0 l0.length c0, .int .i64 x1, .slice A2 l2.length c2]) (fn := Try.f22) rfl rfl rfl rfl ?_
  show WE _ _ _ _ [(0, .slice A0 l0.length c0), (1, .int .i64 x1), (2, .slice A2 l2.length c2)] _
  refine we_seq fun K1 hK1 => ?_
  refine we_region [(0, 0), (1, 1)] rfl ?_
  refine ge_batch [0] (ans := []) (vs := [(6, .slice none 0 0)]) (l := []) (by kernel_rfl) trivial ?_
  refine ge_new (d := some 7) (o := .cells #[.int .i64 0, .int .i64 0] 31) (v := fun b => .pointer (some ⟨b, 0, none⟩)) hS (fun b => by kernel_rfl) fun b1 w1 hx1 hS1 => ?_
  refine ge_nil fun a hF => hK1 _ _ ?_ a hF
  refine we_seq fun K2 hK2 => ?_
  rcases hq1 : net_Round.p0 l0 l2 with _ | (_ | rr3)
  · rw [hq1] at h; cases h
  · rw [hq1] at h
    simp only [] at h
    refine we_keep (e' := [(0, .slice A0 l0.length c0), (1, .int .i64 x1), (2, .slice A2 l2.length c2), (6, .slice none 0 0), (7, .pointer (some ⟨b1, 0, none⟩))]) ⟨by kernel_rfl, by kernel_rfl, by kernel_rfl, by kernel_rfl, by kernel_rfl, trivial⟩ (net_Round_p0 K w0 l0 hd0 A0 c0 x1 l2 A2 c2 hR0 hL0 hN0 hR2 hL2 b1 _ hq1 _ hS1 _ ?_)
    rintro _ a w5 ⟨rfl, hS14, hF⟩
    replace hS14 : St w0 w5 [Own.blk b1 (.cells #[.int .i64 0, .int .i64 0] 31 (0, 0))] := hS14
    refine hK2 [(0, .slice A0 l0.length c0), (1, .int .i64 x1), (2, .slice A2 l2.length c2), (7, .pointer (some ⟨b1, 0, none⟩))] w5 ?_ a hF
    refine we_seq fun K7 hK7 => ?_
    refine we_region [(0, 0)] rfl ?_
    refine ge_batch [0] (ans := []) (vs := [(8, .slice none 0 0)]) (l := []) (by kernel_rfl) trivial ?_
    refine ge_nil fun a hF => hK7 _ _ ?_ a hF
    refine we_seq fun K8 hK8 => ?_
    refine we_seq fun K9 hK9 => ?_
    refine we_region [(0, 0), (1, 0), (2, 0)] rfl ?_
    refine ge_batch [0, 1, 2] (ans := []) (vs := [(31, .int .i64 0), (30, .int .i64 (l0.length : Int)), (29, .slice A0 l0.length c0)]) (l := []) (by kernel_rfl) trivial ?_
    refine ge_nil fun a hF => hK9 _ _ ?_ a hF
    refine we_block ?_
    have hS15 := hS14.nil (α := Int) 3
    have hS16 := hS15.bring 1 rfl
    rcases hq4 : iter (net_Round.r1 K l0 x1 l2) K (([] : List Int), 0) with _ | (m3 | rr2)
    · rw [hq4] at h; cases h
    · rw [hq4] at h
      simp only [] at h
      refine we_iter (A := net_Round.A1 K w0 l0 hd0 A0 c0 x1 l2 A2 c2 hR0 hL0 hN0 hR2 hL2 b1) (B := net_Round.B1 K w0 l0 hd0 A0 c0 x1 l2 A2 c2 hR0 hL0 hN0 hR2 hL2 b1) hq4 (fun a hF => ⟨(.slice none 0 0), hS16, hF.weaken ⟨by kernel_rfl, by kernel_rfl, by kernel_rfl, by kernel_rfl, by kernel_rfl, by kernel_rfl, by kernel_rfl, by kernel_rfl, trivial⟩⟩) (fun s o hf a w hA Q hQ => net_Round_r1 K w0 l0 hd0 A0 c0 x1 l2 A2 c2 hR0 hL0 hN0 hR2 hL2 b1 s o hf a w hA Q hQ) ?_
      rintro _ a w12 _ ⟨rfl, v4, hS40, hF⟩
      replace hS40 : St w0 w12 [Own.blk b1 (.cells #[.int .i64 0, .int .i64 0] 31 (0, 0)), Own.of v4 3 m3] := hS40
      refine hK8 [(7, .pointer (some ⟨b1, 0, none⟩)), (8, v4)] w12 ?_ a hF
      refine we_seq fun K21 hK21 => ?_
      refine we_region [(0, 0), (1, 0), (2, 0), (3, 2)] rfl ?_
      refine ge_batch [0, 1, 2] (ans := []) (vs := [(6, v4), (79, .agg #[.int .i64 0, .int .i64 0]), (78, v4)]) (l := []) (by kernel_rfl) trivial ?_
      refine ge_set (b := b1) (j := 0) (cs := #[.int .i64 0, .int .i64 0]) (t := 31) (vs := [.int .i64 0, .int .i64 0]) hS40 (by kernel_rfl) rfl rfl fun w13 hS41 => ?_
      have hS42 := hS41.nc #[.int .i64 0, .int .i64 0] (by kernel_rfl)
      refine ge_nil fun a hF => hK21 _ _ ?_ a hF
      have hS43 := hS42.bring 1 rfl
      have hS44 := hS43.takeN 1
      obtain rfl := Option.some.inj h
      exact we_ret (post_ret (rs := [.tmp 6, .cell 7 31]) (ans := [.val (.int .i64 0), .val (.int .i64 0)]) (vs := [v4, .agg #[.int .i64 0, .int .i64 0]]) (l := [.loaded ⟨b1, 0, none⟩ (.int .i64 0), .loaded ⟨b1, 1, none⟩ (.int .i64 0)]) rfl (by kernel_rfl) ⟨hS42.cell 0 rfl rfl, hS42.cell 0 rfl rfl, trivial⟩ ⟨v4, rfl, hS44⟩)
    · rw [hq4] at h
      simp only [] at h
      refine we_iter (A := net_Round.A1 K w0 l0 hd0 A0 c0 x1 l2 A2 c2 hR0 hL0 hN0 hR2 hL2 b1) (B := net_Round.B1 K w0 l0 hd0 A0 c0 x1 l2 A2 c2 hR0 hL0 hN0 hR2 hL2 b1) hq4 (fun a hF => ⟨(.slice none 0 0), hS16, hF.weaken ⟨by kernel_rfl, by kernel_rfl, by kernel_rfl, by kernel_rfl, by kernel_rfl, by kernel_rfl, by kernel_rfl, by kernel_rfl, trivial⟩⟩) (fun s o hf a w hA Q hQ => net_Round_r1 K w0 l0 hd0 A0 c0 x1 l2 A2 c2 hR0 hL0 hN0 hR2 hL2 b1 s o hf a w hA Q hQ) ?_
      rintro _ a w1 _ ⟨rfl, hb⟩
      obtain rfl := Option.some.inj h
      exact hb
  · rw [hq1] at h
    simp only [] at h
    refine we_keep (e' := [(0, .slice A0 l0.length c0), (1, .int .i64 x1), (2, .slice A2 l2.length c2), (6, .slice none 0 0), (7, .pointer (some ⟨b1, 0, none⟩))]) ⟨by kernel_rfl, by kernel_rfl, by kernel_rfl, by kernel_rfl, by kernel_rfl, trivial⟩ (net_Round_p0 K w0 l0 hd0 A0 c0 x1 l2 A2 c2 hR0 hL0 hN0 hR2 hL2 b1 _ hq1 _ hS1 _ ?_)
    rintro _ a w1 ⟨_, rfl, hb⟩
    obtain rfl := Option.some.inj h
    exact hb

/-! punctual/punctualref.F -/
abbrev pr_F.Post (w0 : World) (r : SFault) (e : Ending) (w : World) : Prop := e = .returned (.agg #[.int .i64 r.Code, .int .i64 r.At]) ∧ St w0 w []
def pr_F.f (x0 : Int) (x1 : Int) : SFault :=
  (⟨x0, x1⟩ : SFault)
theorem pr_F_ok (x0 : Int) (x1 : Int) (w0 : World) (r : SFault) (h : pr_F.f x0 x1 = r) :
    Calls Try.prog 34 #[.int .i64 x0, .int .i64 x1] w0 (pr_F.Post w0 r) := by
  have hS := St.start w0
  unfold pr_F.f at h
  refine calls_enter (n := 8) (args := [.int .i64 x0, .int .i64 x1]) (fn := Try.f34) rfl rfl rfl rfl ?_
  show WE _ _ _ _ [(0, .int .i64 x0), (1, .int .i64 x1)] _
  refine we_seq fun K1 hK1 => ?_
  refine we_region [(0, 1)] rfl ?_
  refine ge_new (d := some 4) (o := .cells #[.int .i64 0, .int .i64 0] 31) (v := fun b => .pointer (some ⟨b, 0, none⟩)) hS (fun b => by kernel_rfl) fun b1 w1 hx1 hS1 => ?_
  refine ge_nil fun a hF => hK1 _ _ ?_ a hF
  refine we_seq fun K2 hK2 => ?_
  refine we_region [(0, 0), (1, 0), (2, 0), (3, 2)] rfl ?_
  refine ge_batch [0, 1, 2] (ans := []) (vs := [(7, .agg #[.int .i64 x0, .int .i64 x1]), (6, .int .i64 x1), (5, .int .i64 x0)]) (l := []) (by kernel_rfl) trivial ?_
  refine ge_set (b := b1) (j := 0) (cs := #[.int .i64 0, .int .i64 0]) (t := 31) (vs := [.int .i64 x0, .int .i64 x1]) hS1 (by kernel_rfl) rfl rfl fun w2 hS2 => ?_
  have hS3 := hS2.nc #[.int .i64 x0, .int .i64 x1] (by kernel_rfl)
  refine ge_nil fun a hF => hK2 _ _ ?_ a hF
  have hS4 := hS3.takeN 0
  subst h
  exact we_ret (post_ret (rs := [.cell 4 31]) (ans := [.val (.int .i64 x0), .val (.int .i64 x1)]) (vs := [.agg #[.int .i64 x0, .int .i64 x1]]) (l := [.loaded ⟨b1, 0, none⟩ (.int .i64 x0), .loaded ⟨b1, 1, none⟩ (.int .i64 x1)]) rfl (by kernel_rfl) ⟨hS3.cell 0 rfl rfl, hS3.cell 0 rfl rfl, trivial⟩ ⟨rfl, hS4⟩)

/-! sort.Ints -/
def sortInts.f (l : List Int) : Option (List Int) := some (l.mergeSort (fun x y => decide (x ≤ y)))
theorem sortInts_ok (l : List Int) (A : Option Addr) (c : Nat) (w0 wE : World) (LT : List Own) (hS : St w0 wE [Own.of (.slice A l.length c) 3 l, Own.all LT]) (r : List Int) (h : sortInts.f l = some r) :
    Calls Try.prog 48 #[.slice A l.length c] wE (fun e w => e = .returned (.tuple #[]) ∧ l.length = r.length ∧ St w0 w [Own.of (.slice A r.length c) 3 r, Own.all LT]) := by
  obtain rfl := Option.some.inj h
  exact ints_ok hS

/-! punctual/punctualref.MiddleOf -/
abbrev pr_MiddleOf.Post (w0 : World) (r : Int × Int) (e : Ending) (w : World) : Prop := e = .returned (.tuple #[.int .i64 r.1, .int .i64 r.2]) ∧ St w0 w []
def pr_MiddleOf.p0 (l0 : List Int) : Option (Unit ⊕ (Int × Int)) :=
    if (l0.length : Int) = 0 then
      some (.inr (0, 2))
    else
      if (l0.length : Int) > 10 then
        some (.inr (0, 2))
      else
        some (.inl ())
def pr_MiddleOf.r1 (l0 : List Int) : Nat → Option (Nat ⊕ (Unit ⊕ (Int × Int)))
  | i1 =>
    if (i1 : Int) < (l0.length : Int) then
      match l0[i1]? with
      | none => none
      | some e1 =>
        if e1 < (-1099511627776) then
          some (.inr (.inr (0, 3)))
        else
          if e1 > 1099511627776 then
            some (.inr (.inr (0, 3)))
          else
            some (.inl (i1 + 1))
    else
      some (.inr (.inl ()))
def pr_MiddleOf.p2 (l0 : List Int) (x1 : Int) : Option (Unit ⊕ (Int × Int)) :=
    if x1 < 0 then
      some (.inr (0, 13))
    else
      if x1 > 10 then
        some (.inr (0, 13))
      else
        if (l0.length : Int) ≤ (IntKind.i64.wrap (3 * x1)) then
          some (.inr (0, 13))
        else
          some (.inl ())
def pr_MiddleOf.f (K : Nat) (l0 : List Int) (x1 : Int) : Option (Int × Int) :=
  match pr_MiddleOf.p0 l0 with
  | none => none
  | some (.inl _) =>
    match iter (pr_MiddleOf.r1 l0) K 0 with
    | none => none
    | some (.inl _) =>
      match pr_MiddleOf.p2 l0 x1 with
      | none => none
      | some (.inl _) =>
        if 0 + l0.length ≤ 17592186044416 then
          match sortInts.f l0 with
          | none => none
          | some r1 =>
            if 0 ≤ x1 then
              if 0 ≤ (IntKind.i64.wrap ((r1.length : Int) - x1)) then
                if ((IntKind.i64.wrap ((r1.length : Int) - x1)).toNat) ≤ r1.length then
                  if ((x1).toNat) ≤ ((IntKind.i64.wrap ((r1.length : Int) - x1)).toNat) then
                    match ((r1.take ((IntKind.i64.wrap ((r1.length : Int) - x1)).toNat)).drop ((x1).toNat))[0]? with
                    | none => none
                    | some e2 =>
                      if 0 ≤ (IntKind.i64.wrap ((((r1.take ((IntKind.i64.wrap ((r1.length : Int) - x1)).toNat)).drop ((x1).toNat)).length : Int) - 1)) then
                        match ((r1.take ((IntKind.i64.wrap ((r1.length : Int) - x1)).toNat)).drop ((x1).toNat))[(IntKind.i64.wrap ((((r1.take ((IntKind.i64.wrap ((r1.length : Int) - x1)).toNat)).drop ((x1).toNat)).length : Int) - 1)).toNat]? with
                        | none => none
                        | some e3 =>
                          if (Int.tmod (IntKind.i64.wrap (e2 + e3)) 2) = 0 then
                            some (IntKind.i64.wrap (Int.tdiv (IntKind.i64.wrap (e2 + e3)) 2), 0)
                          else
                            if (IntKind.i64.wrap (e2 + e3)) < 0 then
                              some (IntKind.i64.wrap (Int.tdiv (IntKind.i64.wrap ((IntKind.i64.wrap (e2 + e3)) - 1)) 2), 0)
                            else
                              some (IntKind.i64.wrap (Int.tdiv (IntKind.i64.wrap (e2 + e3)) 2), 0)
                      else
                        none
                  else
                    none
                else
                  none
              else
                none
            else
              none
        else
          none
      | some (.inr rr1) =>
        some rr1
    | some (.inr rr2) =>
      some rr2
  | some (.inr rr3) =>
    some rr3
abbrev pr_MiddleOf.A0 (K : Nat) (w0 : World) (l0 : List Int) (A0 : Option Addr) (c0 : Nat) (x1 : Int) (hR0 : RdL w0 A0 l0) (hL0 : l0.length ≤ c0) : Unit → Act → World → Prop := fun (s : Unit) a w => St w0 w [] ∧ Frm 78 a [(0, .slice A0 l0.length c0), (1, .int .i64 x1)]
abbrev pr_MiddleOf.B0 (K : Nat) (w0 : World) (l0 : List Int) (A0 : Option Addr) (c0 : Nat) (x1 : Int) (hR0 : RdL w0 A0 l0) (hL0 : l0.length ≤ c0) : (Int × Int) → Exit → Act → World → Prop := Rets Try.prog Try.f29 (pr_MiddleOf.Post w0)
theorem pr_MiddleOf_p0 (K : Nat) (w0 : World) (l0 : List Int) (A0 : Option Addr) (c0 : Nat) (x1 : Int) (hR0 : RdL w0 A0 l0) (hL0 : l0.length ≤ c0) (o : Unit ⊕ (Int × Int)) (h : pr_MiddleOf.p0 l0 = some o) (w : World) (hS : St w0 w []) (Q : Exit → Act → World → Prop) (hQ : ∀ x a w, Outs (pr_MiddleOf.A0 K w0 l0 A0 c0 x1 hR0 hL0) (pr_MiddleOf.B0 K w0 l0 A0 c0 x1 hR0 hL0) o x a w → Q x a w) : WE Try.prog 78 (subF Try.f29 [1, 0]) Q [(0, .slice A0 l0.length c0), (1, .int .i64 x1), (4, .int .i64 0), (5, .int .i64 0)] w := by
  simp only [pr_MiddleOf.p0] at h
  refine we_seq fun K3 hK3 => ?_
  refine we_region [(0, 0), (1, 0), (2, 0), (3, 0), (4, 0), (5, 0), (6, 0), (7, 0)] rfl ?_
  refine ge_batch [0, 1, 2, 3] (ans := []) (vs := [(13, .bool ((l0.length : Int) == 0)), (12, .bool ((l0.length : Int) == 0)), (11, .int .i64 (l0.length : Int)), (10, .slice A0 l0.length c0)]) (l := []) (by kernel_rfl) trivial ?_
  by_cases hc1 : (l0.length : Int) = 0
  · rw [if_pos hc1] at h
    refine ge_known (t := 13) (b := ((l0.length : Int) == 0)) (c := true) (by kernel_rfl) (beq_iff_eq.2 hc1) ?_
    refine ge_batch [4, 5, 6, 7] (ans := []) (vs := [(17, .bool true), (16, undef), (15, undef), (14, undef)]) (l := []) (by kernel_rfl) trivial ?_
    refine ge_nil fun a hF => hK3 _ _ ?_ a hF
    refine we_true (by kernel_rfl) ?_
    refine we_seq fun K4 hK4 => ?_
    refine we_region [(0, 0), (1, 0)] rfl ?_
    refine ge_batch [0, 1] (ans := []) (vs := [(5, .int .i64 2), (4, .int .i64 0)]) (l := []) (by kernel_rfl) trivial ?_
    refine ge_nil fun a hF => hK4 _ _ ?_ a hF
    obtain rfl := Option.some.inj h
    exact we_ret fun a hF => hQ _ _ _ (Outs.out nofun ⟨rfl, (post_ret (rs := [.tmp 4, .tmp 5]) (ans := []) (vs := [.int .i64 0, .int .i64 2]) (l := []) rfl (by kernel_rfl) trivial ⟨rfl, hS⟩) a hF⟩)
  · rw [if_neg hc1] at h
    refine ge_known (t := 13) (b := ((l0.length : Int) == 0)) (c := false) (by kernel_rfl) (beq_eq_false_iff_ne.2 hc1) ?_
    refine ge_batch [4, 5, 6, 7] (ans := []) (vs := [(17, .bool (decide ((l0.length : Int) > 10))), (16, .bool (decide ((l0.length : Int) > 10))), (15, .int .i64 (l0.length : Int)), (14, .slice A0 l0.length c0)]) (l := []) (by kernel_rfl) trivial ?_
    refine ge_nil fun a hF => hK3 _ _ ?_ a hF
    by_cases hc2 : (l0.length : Int) > 10
    · rw [if_pos hc2] at h
      refine we_known (t := 17) (b := decide ((l0.length : Int) > 10)) (v := true) (by kernel_rfl) (decide_eq_true hc2) ?_
      refine we_true (by kernel_rfl) ?_
      refine we_seq fun K5 hK5 => ?_
      refine we_region [(0, 0), (1, 0)] rfl ?_
      refine ge_batch [0, 1] (ans := []) (vs := [(5, .int .i64 2), (4, .int .i64 0)]) (l := []) (by kernel_rfl) trivial ?_
      refine ge_nil fun a hF => hK5 _ _ ?_ a hF
      obtain rfl := Option.some.inj h
      exact we_ret fun a hF => hQ _ _ _ (Outs.out nofun ⟨rfl, (post_ret (rs := [.tmp 4, .tmp 5]) (ans := []) (vs := [.int .i64 0, .int .i64 2]) (l := []) rfl (by kernel_rfl) trivial ⟨rfl, hS⟩) a hF⟩)
    · rw [if_neg hc2] at h
      refine we_known (t := 17) (b := decide ((l0.length : Int) > 10)) (v := false) (by kernel_rfl) (decide_eq_false hc2) ?_
      refine we_false (by kernel_rfl) ?_
      obtain rfl := Option.some.inj h
      exact we_skip fun a hF => hQ _ _ _ (Outs.again ⟨hS, hF.weaken ⟨by kernel_rfl, by kernel_rfl, trivial⟩⟩)
abbrev pr_MiddleOf.A1 (K : Nat) (w0 : World) (l0 : List Int) (A0 : Option Addr) (c0 : Nat) (x1 : Int) (hR0 : RdL w0 A0 l0) (hL0 : l0.length ≤ c0) : Nat → Act → World → Prop := fun (s : Nat) a w => St w0 w [] ∧ Frm 78 a [(0, .slice A0 l0.length c0), (1, .int .i64 x1), (18, .slice A0 l0.length c0), (19, .int .i64 (l0.length : Int)), (20, .int .i64 (s : Int))]
abbrev pr_MiddleOf.B1 (K : Nat) (w0 : World) (l0 : List Int) (A0 : Option Addr) (c0 : Nat) (x1 : Int) (hR0 : RdL w0 A0 l0) (hL0 : l0.length ≤ c0) : (Unit ⊕ (Int × Int)) → Exit → Act → World → Prop := Exits 0 (fun (s : Unit) a w => St w0 w [] ∧ Frm 78 a [(0, .slice A0 l0.length c0), (1, .int .i64 x1)]) (Rets Try.prog Try.f29 (pr_MiddleOf.Post w0))
theorem pr_MiddleOf_r1 (K : Nat) (w0 : World) (l0 : List Int) (A0 : Option Addr) (c0 : Nat) (x1 : Int) (hR0 : RdL w0 A0 l0) (hL0 : l0.length ≤ c0) (s : Nat) (o : Nat ⊕ (Unit ⊕ (Int × Int))) (h : pr_MiddleOf.r1 l0 s = some o) (a : Act) (w : World) (hA : pr_MiddleOf.A1 K w0 l0 A0 c0 x1 hR0 hL0 s a w) (Q : Exit → Act → World → Prop) (hQ : ∀ x a w, Outs (pr_MiddleOf.A1 K w0 l0 A0 c0 x1 hR0 hL0) (pr_MiddleOf.B1 K w0 l0 A0 c0 x1 hR0 hL0) o x a w → Q x a w) : (subF Try.f29 [1, 1, 0, 1, 0, 0]).wp Try.prog Q a w := by
  obtain ⟨i1, hs⟩ : ∃ z, z = s := ⟨s, rfl⟩
  subst hs
  obtain ⟨hS, hF⟩ := hA
  replace hS : St w0 w [] := hS
  simp only [pr_MiddleOf.r1] at h
  refine (?_ : WE Try.prog 78 (subF Try.f29 [1, 1, 0, 1, 0, 0]) Q [(0, .slice A0 l0.length c0), (1, .int .i64 x1), (18, .slice A0 l0.length c0), (19, .int .i64 (l0.length : Int)), (20, .int .i64 (i1 : Int))] w) a hF
  clear hF a
  refine we_seq fun K8 hK8 => ?_
  refine we_region [(0, 0)] rfl ?_
  refine ge_batch [0] (ans := []) (vs := [(21, .bool (decide ((i1 : Int) < (l0.length : Int))))]) (l := []) (by kernel_rfl) trivial ?_
  refine ge_nil fun a hF => hK8 _ _ ?_ a hF
  refine we_seq fun K9 hK9 => ?_
  by_cases hc3 : (i1 : Int) < (l0.length : Int)
  · rw [if_pos hc3] at h
    refine we_known (t := 21) (b := decide ((i1 : Int) < (l0.length : Int))) (v := true) (by kernel_rfl) (decide_eq_true hc3) ?_
    refine we_true (by kernel_rfl) ?_
    refine we_skip fun a hF => hK9 _ _ ?_ a hF
    refine we_seq fun K10 hK10 => ?_
    refine we_block ?_
    refine we_seq fun K11 hK11 => ?_
    refine we_region [(0, 0), (1, 0), (2, 0)] rfl ?_
    rcases hx1 : l0[i1]? with _ | e1
    · rw [hx1] at h; cases h
    rw [hx1] at h
    simp only [] at h
    refine ge_index (d := 22) (ty := 0) (t := 26) (el := 3) (sz := 1) (m := l0.length) (c := c0) (x := (.tmp 18)) (y := (.tmp 20)) (A := A0) (k' := .i64) (j := (i1 : Int)) (jn := i1) (b0 := blkOf A0) (o0 := offOf A0) (by kernel_rfl) (by kernel_rfl) (by kernel_rfl) (by kernel_rfl) (by kernel_rfl) ((hS.rd hR0).eqSome (pos_of_get hx1)) rfl (lt_of_get hx1) ?_
    refine ge_batch [1, 2] (ans := [.val (.int .i64 e1)]) (vs := [(7, .int .i64 e1), (23, .int .i64 e1)]) (l := [.loaded ⟨blkOf A0, offOf A0 + i1 * 1, none⟩ (.int .i64 e1)]) (by kernel_rfl) ⟨RdL.cell (j := 0) (hS.rd hR0) hx1 rfl, trivial⟩ ?_
    refine ge_nil fun a hF => hK11 _ _ ?_ a hF
    refine we_seq fun K12 hK12 => ?_
    refine we_region [(0, 0), (1, 0), (2, 0), (3, 0), (4, 0), (5, 0)] rfl ?_
    refine ge_batch [0, 1, 2] (ans := []) (vs := [(26, .bool (decide (e1 < (-1099511627776)))), (25, .bool (decide (e1 < (-1099511627776)))), (24, .int .i64 e1)]) (l := []) (by kernel_rfl) trivial ?_
    by_cases hc4 : e1 < (-1099511627776)
    · rw [if_pos hc4] at h
      refine ge_known (t := 26) (b := decide (e1 < (-1099511627776))) (c := true) (by kernel_rfl) (decide_eq_true hc4) ?_
      refine ge_batch [3, 4, 5] (ans := []) (vs := [(29, .bool true), (28, undef), (27, undef)]) (l := []) (by kernel_rfl) trivial ?_
      refine ge_nil fun a hF => hK12 _ _ ?_ a hF
      refine we_true (by kernel_rfl) ?_
      refine we_seq fun K13 hK13 => ?_
      refine we_region [(0, 0), (1, 0)] rfl ?_
      refine ge_batch [0, 1] (ans := []) (vs := [(5, .int .i64 3), (4, .int .i64 0)]) (l := []) (by kernel_rfl) trivial ?_
      refine ge_nil fun a hF => hK13 _ _ ?_ a hF
      obtain rfl := Option.some.inj h
      exact we_ret fun a hF => hQ _ _ _ (Outs.out nofun (Exits.on ⟨rfl, (post_ret (rs := [.tmp 4, .tmp 5]) (ans := []) (vs := [.int .i64 0, .int .i64 3]) (l := []) rfl (by kernel_rfl) trivial ⟨rfl, hS⟩) a hF⟩))
    · rw [if_neg hc4] at h
      refine ge_known (t := 26) (b := decide (e1 < (-1099511627776))) (c := false) (by kernel_rfl) (decide_eq_false hc4) ?_
      refine ge_batch [3, 4, 5] (ans := []) (vs := [(29, .bool (decide (e1 > 1099511627776))), (28, .bool (decide (e1 > 1099511627776))), (27, .int .i64 e1)]) (l := []) (by kernel_rfl) trivial ?_
      refine ge_nil fun a hF => hK12 _ _ ?_ a hF
      by_cases hc5 : e1 > 1099511627776
      · rw [if_pos hc5] at h
        refine we_known (t := 29) (b := decide (e1 > 1099511627776)) (v := true) (by kernel_rfl) (decide_eq_true hc5) ?_
        refine we_true (by kernel_rfl) ?_
        refine we_seq fun K14 hK14 => ?_
        refine we_region [(0, 0), (1, 0)] rfl ?_
        refine ge_batch [0, 1] (ans := []) (vs := [(5, .int .i64 3), (4, .int .i64 0)]) (l := []) (by kernel_rfl) trivial ?_
        refine ge_nil fun a hF => hK14 _ _ ?_ a hF
        obtain rfl := Option.some.inj h
        exact we_ret fun a hF => hQ _ _ _ (Outs.out nofun (Exits.on ⟨rfl, (post_ret (rs := [.tmp 4, .tmp 5]) (ans := []) (vs := [.int .i64 0, .int .i64 3]) (l := []) rfl (by kernel_rfl) trivial ⟨rfl, hS⟩) a hF⟩))
      · rw [if_neg hc5] at h
        refine we_known (t := 29) (b := decide (e1 > 1099511627776)) (v := false) (by kernel_rfl) (decide_eq_false hc5) ?_
        refine we_false (by kernel_rfl) ?_
        refine we_skip fun a hF => hK10 _ _ ?_ a hF
        refine we_region [(0, 0), (1, 0)] rfl ?_
        refine ge_addn (d := 30) (ty := 3) (x := (.tmp 20)) (y := (.const (.int .i64 1))) (t := 3) (t2 := 3) (k := .i64) (m := i1) (by kernel_rfl) (by kernel_rfl) (by kernel_rfl) (by have h0 := hR0.small; omega) ?_
        refine ge_batch [1] (ans := []) (vs := [(20, .int .i64 ((i1 + 1 : Nat) : Int))]) (l := []) (by kernel_rfl) trivial ?_
        obtain rfl := Option.some.inj h
        exact ge_nil fun a hF => hQ _ _ _ (Outs.again ⟨hS, hF.weaken ⟨by kernel_rfl, by kernel_rfl, by kernel_rfl, by kernel_rfl, by kernel_rfl, trivial⟩⟩)
  · rw [if_neg hc3] at h
    refine we_known (t := 21) (b := decide ((i1 : Int) < (l0.length : Int))) (v := false) (by kernel_rfl) (decide_eq_false hc3) ?_
    refine we_false (by kernel_rfl) ?_
    obtain rfl := Option.some.inj h
    exact we_exit fun a hF => hQ _ _ _ (Outs.out nofun (Exits.here ⟨hS, hF.weaken ⟨by kernel_rfl, by kernel_rfl, trivial⟩⟩))
abbrev pr_MiddleOf.A2 (K : Nat) (w0 : World) (l0 : List Int) (A0 : Option Addr) (c0 : Nat) (x1 : Int) (hR0 : RdL w0 A0 l0) (hL0 : l0.length ≤ c0) : Unit → Act → World → Prop := fun (s : Unit) a w => St w0 w [] ∧ Frm 78 a [(0, .slice A0 l0.length c0), (1, .int .i64 x1)]
abbrev pr_MiddleOf.B2 (K : Nat) (w0 : World) (l0 : List Int) (A0 : Option Addr) (c0 : Nat) (x1 : Int) (hR0 : RdL w0 A0 l0) (hL0 : l0.length ≤ c0) : (Int × Int) → Exit → Act → World → Prop := Rets Try.prog Try.f29 (pr_MiddleOf.Post w0)
theorem pr_MiddleOf_p2 (K : Nat) (w0 : World) (l0 : List Int) (A0 : Option Addr) (c0 : Nat) (x1 : Int) (hR0 : RdL w0 A0 l0) (hL0 : l0.length ≤ c0) (o : Unit ⊕ (Int × Int)) (h : pr_MiddleOf.p2 l0 x1 = some o) (w : World) (hS : St w0 w []) (Q : Exit → Act → World → Prop) (hQ : ∀ x a w, Outs (pr_MiddleOf.A2 K w0 l0 A0 c0 x1 hR0 hL0) (pr_MiddleOf.B2 K w0 l0 A0 c0 x1 hR0 hL0) o x a w → Q x a w) : WE Try.prog 78 (subF Try.f29 [1, 1, 1, 0]) Q [(0, .slice A0 l0.length c0), (1, .int .i64 x1)] w := by
  simp only [pr_MiddleOf.p2] at h
  refine we_seq fun K16 hK16 => ?_
  refine we_region [(0, 0), (1, 0), (2, 0), (3, 0), (4, 0), (5, 0), (6, 0), (7, 0), (8, 0), (9, 0), (10, 0), (11, 0), (12, 0)] rfl ?_
  refine ge_batch [0, 1, 2] (ans := []) (vs := [(33, .bool (decide (x1 < 0))), (32, .bool (decide (x1 < 0))), (31, .int .i64 x1)]) (l := []) (by kernel_rfl) trivial ?_
  by_cases hc6 : x1 < 0
  · rw [if_pos hc6] at h
    refine ge_known (t := 33) (b := decide (x1 < 0)) (c := true) (by kernel_rfl) (decide_eq_true hc6) ?_
    refine ge_batch [3, 4, 5, 6, 7, 8, 9, 10, 11, 12] (ans := []) (vs := [(43, .bool true), (42, undef), (41, undef), (40, undef), (39, undef), (38, undef), (37, .bool true), (36, .bool true), (35, undef), (34, undef)]) (l := []) (by kernel_rfl) trivial ?_
    refine ge_nil fun a hF => hK16 _ _ ?_ a hF
    refine we_true (by kernel_rfl) ?_
    refine we_seq fun K17 hK17 => ?_
    refine we_region [(0, 0), (1, 0)] rfl ?_
    refine ge_batch [0, 1] (ans := []) (vs := [(5, .int .i64 13), (4, .int .i64 0)]) (l := []) (by kernel_rfl) trivial ?_
    refine ge_nil fun a hF => hK17 _ _ ?_ a hF
    obtain rfl := Option.some.inj h
    exact we_ret fun a hF => hQ _ _ _ (Outs.out nofun ⟨rfl, (post_ret (rs := [.tmp 4, .tmp 5]) (ans := []) (vs := [.int .i64 0, .int .i64 13]) (l := []) rfl (by kernel_rfl) trivial ⟨rfl, hS⟩) a hF⟩)
  · rw [if_neg hc6] at h
    refine ge_known (t := 33) (b := decide (x1 < 0)) (c := false) (by kernel_rfl) (decide_eq_false hc6) ?_
    refine ge_batch [3, 4, 5, 6] (ans := []) (vs := [(37, .bool (decide (x1 > 10))), (36, .bool (decide (x1 > 10))), (35, .bool (decide (x1 > 10))), (34, .int .i64 x1)]) (l := []) (by kernel_rfl) trivial ?_
    by_cases hc7 : x1 > 10
    · rw [if_pos hc7] at h
      refine ge_known (t := 37) (b := decide (x1 > 10)) (c := true) (by kernel_rfl) (decide_eq_true hc7) ?_
      refine ge_batch [7, 8, 9, 10, 11, 12] (ans := []) (vs := [(43, .bool true), (42, undef), (41, undef), (40, undef), (39, undef), (38, undef)]) (l := []) (by kernel_rfl) trivial ?_
      refine ge_nil fun a hF => hK16 _ _ ?_ a hF
      refine we_true (by kernel_rfl) ?_
      refine we_seq fun K18 hK18 => ?_
      refine we_region [(0, 0), (1, 0)] rfl ?_
      refine ge_batch [0, 1] (ans := []) (vs := [(5, .int .i64 13), (4, .int .i64 0)]) (l := []) (by kernel_rfl) trivial ?_
      refine ge_nil fun a hF => hK18 _ _ ?_ a hF
      obtain rfl := Option.some.inj h
      exact we_ret fun a hF => hQ _ _ _ (Outs.out nofun ⟨rfl, (post_ret (rs := [.tmp 4, .tmp 5]) (ans := []) (vs := [.int .i64 0, .int .i64 13]) (l := []) rfl (by kernel_rfl) trivial ⟨rfl, hS⟩) a hF⟩)
    · rw [if_neg hc7] at h
      refine ge_known (t := 37) (b := decide (x1 > 10)) (c := false) (by kernel_rfl) (decide_eq_false hc7) ?_
      refine ge_batch [7, 8, 9, 10, 11, 12] (ans := []) (vs := [(43, .bool (decide ((l0.length : Int) ≤ (IntKind.i64.wrap (3 * x1))))), (42, .bool (decide ((l0.length : Int) ≤ (IntKind.i64.wrap (3 * x1))))), (41, .int .i64 (IntKind.i64.wrap (3 * x1))), (40, .int .i64 x1), (39, .int .i64 (l0.length : Int)), (38, .slice A0 l0.length c0)]) (l := []) (by kernel_rfl) trivial ?_
      refine ge_nil fun a hF => hK16 _ _ ?_ a hF
      by_cases hc8 : (l0.length : Int) ≤ (IntKind.i64.wrap (3 * x1))
      · rw [if_pos hc8] at h
        refine we_known (t := 43) (b := decide ((l0.length : Int) ≤ (IntKind.i64.wrap (3 * x1)))) (v := true) (by kernel_rfl) (decide_eq_true hc8) ?_
        refine we_true (by kernel_rfl) ?_
        refine we_seq fun K19 hK19 => ?_
        refine we_region [(0, 0), (1, 0)] rfl ?_
        refine ge_batch [0, 1] (ans := []) (vs := [(5, .int .i64 13), (4, .int .i64 0)]) (l := []) (by kernel_rfl) trivial ?_
        refine ge_nil fun a hF => hK19 _ _ ?_ a hF
        obtain rfl := Option.some.inj h
        exact we_ret fun a hF => hQ _ _ _ (Outs.out nofun ⟨rfl, (post_ret (rs := [.tmp 4, .tmp 5]) (ans := []) (vs := [.int .i64 0, .int .i64 13]) (l := []) rfl (by kernel_rfl) trivial ⟨rfl, hS⟩) a hF⟩)
      · rw [if_neg hc8] at h
        refine we_known (t := 43) (b := decide ((l0.length : Int) ≤ (IntKind.i64.wrap (3 * x1)))) (v := false) (by kernel_rfl) (decide_eq_false hc8) ?_
        refine we_false (by kernel_rfl) ?_
        obtain rfl := Option.some.inj h
        exact we_skip fun a hF => hQ _ _ _ (Outs.again ⟨hS, hF.weaken ⟨by kernel_rfl, by kernel_rfl, trivial⟩⟩)
theorem pr_MiddleOf_ok (K : Nat) (l0 : List Int) (A0 : Option Addr) (c0 : Nat) (x1 : Int) (w0 : World) (hR0 : RdL w0 A0 l0) (hL0 : l0.length ≤ c0) (r : Int × Int) (h : pr_MiddleOf.f K l0 x1 = some r) :
    Calls Try.prog 29 #[.slice A0 l0.length c0, .int .i64 x1] w0 (pr_MiddleOf.Post w0 r) := by
  have hS := St.start w0
  unfold pr_MiddleOf.f at h
  refine calls_enter (n := 78) (args := [.slice A0 l0.length c0, .int .i64 x1]) (fn := Try.f29) rfl rfl rfl rfl ?_
  show WE _ _ _ _ [(0, .slice A0 l0.length c0), (1, .int .i64 x1)] _
  refine we_seq fun K1 hK1 => ?_
  refine we_region [(0, 0), (1, 0)] rfl ?_
  refine ge_batch [0, 1] (ans := []) (vs := [(5, .int .i64 0), (4, .int .i64 0)]) (l := []) (by kernel_rfl) trivial ?_
  refine ge_nil fun a hF => hK1 _ _ ?_ a hF
  refine we_seq fun K2 hK2 => ?_
  rcases hq1 : pr_MiddleOf.p0 l0 with _ | (_ | rr3)
  · rw [hq1] at h; cases h
  · rw [hq1] at h
    simp only [] at h
    refine we_keep (e' := [(0, .slice A0 l0.length c0), (1, .int .i64 x1), (4, .int .i64 0), (5, .int .i64 0)]) ⟨by kernel_rfl, by kernel_rfl, by kernel_rfl, by kernel_rfl, trivial⟩ (pr_MiddleOf_p0 K w0 l0 A0 c0 x1 hR0 hL0 _ hq1 _ hS _ ?_)
    rintro _ a w1 ⟨rfl, hS1, hF⟩
    replace hS1 : St w0 w1 [] := hS1
    refine hK2 [(0, .slice A0 l0.length c0), (1, .int .i64 x1)] w1 ?_ a hF
    refine we_seq fun K6 hK6 => ?_
    refine we_seq fun K7 hK7 => ?_
    refine we_region [(0, 0), (1, 0), (2, 0)] rfl ?_
    refine ge_batch [0, 1, 2] (ans := []) (vs := [(20, .int .i64 0), (19, .int .i64 (l0.length : Int)), (18, .slice A0 l0.length c0)]) (l := []) (by kernel_rfl) trivial ?_
    refine ge_nil fun a hF => hK7 _ _ ?_ a hF
    refine we_block ?_
    rcases hq2 : iter (pr_MiddleOf.r1 l0) K 0 with _ | (_ | rr2)
    · rw [hq2] at h; cases h
    · rw [hq2] at h
      simp only [] at h
      refine we_iter (A := pr_MiddleOf.A1 K w0 l0 A0 c0 x1 hR0 hL0) (B := pr_MiddleOf.B1 K w0 l0 A0 c0 x1 hR0 hL0) hq2 (fun a hF => ⟨hS1, hF.weaken ⟨by kernel_rfl, by kernel_rfl, by kernel_rfl, by kernel_rfl, by kernel_rfl, trivial⟩⟩) (fun s o hf a w hA Q hQ => pr_MiddleOf_r1 K w0 l0 A0 c0 x1 hR0 hL0 s o hf a w hA Q hQ) ?_
      rintro _ a w2 _ ⟨rfl, hS2, hF⟩
      replace hS2 : St w0 w2 [] := hS2
      refine hK6 [(0, .slice A0 l0.length c0), (1, .int .i64 x1)] w2 ?_ a hF
      refine we_seq fun K15 hK15 => ?_
      rcases hq3 : pr_MiddleOf.p2 l0 x1 with _ | (_ | rr1)
      · rw [hq3] at h; cases h
      · rw [hq3] at h
        simp only [] at h
        refine we_keep (e' := [(0, .slice A0 l0.length c0), (1, .int .i64 x1)]) ⟨by kernel_rfl, by kernel_rfl, trivial⟩ (pr_MiddleOf_p2 K w0 l0 A0 c0 x1 hR0 hL0 _ hq3 _ hS2 _ ?_)
        rintro _ a w3 ⟨rfl, hS3, hF⟩
        replace hS3 : St w0 w3 [] := hS3
        refine hK15 [(0, .slice A0 l0.length c0), (1, .int .i64 x1)] w3 ?_ a hF
        refine we_seq fun K20 hK20 => ?_
        refine we_region [(0, 1), (1, 0), (2, 2), (3, 0)] rfl ?_
        refine ge_new (d := some 44) (o := .cells #[] 3) (v := fun b => .slice (some ⟨b, 0, none⟩) 0 0) hS3 (fun b => by kernel_rfl) fun b1 w4 hx2 hS4 => ?_
        refine ge_batch [1] (ans := []) (vs := [(45, .slice A0 l0.length c0)]) (l := []) (by kernel_rfl) trivial ?_
        have hS5 := hS4.asRow (α := Int) (c := 0) ([] : List Int) (Nat.le_refl _) (by decide) rfl rfl
        by_cases hc9 : 0 + l0.length ≤ 17592186044416
        · rw [if_pos hc9] at h
          refine ge_appendL (α := Int) (m := 0) (d := 46) (t := 26) (el := 3) (bytes := 8) (c1 := c0) (A1 := A0) (x := (.tmp 44)) (y := (.tmp 45)) (ty := 26) (v := (.slice (some ⟨b1, 0, none⟩) 0 0)) (z := .int .i64 0) (l := ([] : List Int)) (us := l0) (by kernel_rfl) (by kernel_rfl) (by kernel_rfl) (by kernel_rfl) (by kernel_rfl) rfl hS5 (hS5.rd hR0) rfl (Nat.mul_le_of_le_div _ _ _ hc9) fun v1 w5 hS6 => ?_
          have hS7 : St w0 w5 [Own.of v1 3 l0] := hS6
          refine ge_batch [3] (ans := []) (vs := [(8, v1)]) (l := []) (by kernel_rfl) trivial ?_
          refine ge_nil fun a hF => hK20 _ _ ?_ a hF
          refine we_seq fun K21 hK21 => ?_
          refine we_region [(0, 0), (1, 2)] rfl ?_
          refine ge_batch [0] (ans := []) (vs := [(47, v1)]) (l := []) (by kernel_rfl) trivial ?_
          obtain ⟨Z1, cz1, rfl⟩ := hS7.open 0 rfl
          rcases hq4 : sortInts.f l0 with _ | r1
          · rw [hq4] at h; cases h
          rw [hq4] at h
          simp only [] at h
          have hS9 : St w0 w5 [Own.of (.slice Z1 l0.length cz1) 3 l0, Own.all []] := hS7.packN 1
          refine ge_call2 (m := 0) (d := some 48) (f := 48) (args := #[.slice Z1 l0.length cz1]) (by kernel_rfl) (sortInts_ok l0 Z1 cz1 _ _ _ hS9 _ hq4) ?_
          rintro _ w6 ⟨rfl, hE1, hS8⟩
          refine ⟨_, rfl, ?_⟩
          have hS10 : St w0 w6 [Own.of (.slice Z1 r1.length cz1) 3 r1] := hS8.unpack [Own.of (.slice Z1 r1.length cz1) 3 r1]
          refine ge_same (t := 46) (v := (.slice Z1 l0.length cz1)) (v' := (.slice Z1 r1.length cz1)) (by kernel_rfl) (by rw [← show l0.length = r1.length from hE1]) ?_
          refine ge_same (t := 8) (v := (.slice Z1 l0.length cz1)) (v' := (.slice Z1 r1.length cz1)) (by kernel_rfl) (by rw [← show l0.length = r1.length from hE1]) ?_
          refine ge_same (t := 47) (v := (.slice Z1 l0.length cz1)) (v' := (.slice Z1 r1.length cz1)) (by kernel_rfl) (by rw [← show l0.length = r1.length from hE1]) ?_
          refine ge_nil fun a hF => hK21 _ _ ?_ a hF
          refine we_seq fun K22 hK22 => ?_
          refine we_region [(0, 0), (1, 0), (2, 0), (3, 0), (4, 0), (5, 0), (6, 0), (7, 0)] rfl ?_
          refine ge_batch [0, 1, 2, 3, 4, 5] (ans := []) (vs := [(54, .int .i64 (IntKind.i64.wrap ((r1.length : Int) - x1))), (53, .int .i64 x1), (52, .int .i64 (r1.length : Int)), (51, (.slice Z1 r1.length cz1)), (50, .int .i64 x1), (49, (.slice Z1 r1.length cz1))]) (l := []) (by kernel_rfl) trivial ?_
          by_cases hc10 : 0 ≤ x1
          · rw [if_pos hc10] at h
            by_cases hc11 : 0 ≤ (IntKind.i64.wrap ((r1.length : Int) - x1))
            · rw [if_pos hc11] at h
              by_cases hc12 : ((IntKind.i64.wrap ((r1.length : Int) - x1)).toNat) ≤ r1.length
              · rw [if_pos hc12] at h
                by_cases hc13 : ((x1).toNat) ≤ ((IntKind.i64.wrap ((r1.length : Int) - x1)).toNat)
                · rw [if_pos hc13] at h
                  refine ge_part (d := 55) (ty := 26) (t := 26) (el := 3) (sz := 1) (m := r1.length) (c := cz1) (lo := ((x1).toNat)) (hi := ((IntKind.i64.wrap ((r1.length : Int) - x1)).toNat)) (x := (.tmp 49)) (xl := some (.tmp 50)) (xh := some (.tmp 54)) (A := Z1) (by kernel_rfl) (by kernel_rfl) ⟨.i64, x1, by kernel_rfl, (Int.toNat_of_nonneg hc10).symm⟩ ⟨.i64, (IntKind.i64.wrap ((r1.length : Int) - x1)), by kernel_rfl, (Int.toNat_of_nonneg hc11).symm⟩ (by kernel_rfl) (by kernel_rfl) (by have f0 := hc12; have f1 := hc13; have f2 := (hS10.capAt 0 rfl); omega) (by have f0 := hc12; have f1 := hc13; have f2 := (hS10.capAt 0 rfl); omega) ?_
                  refine ge_same (t := 55) (v := .slice (subA Z1 cz1 ((x1).toNat) 1) (((IntKind.i64.wrap ((r1.length : Int) - x1)).toNat) - ((x1).toNat)) (cz1 - ((x1).toNat))) (v' := .slice (subA Z1 cz1 ((x1).toNat) 1) (((r1.take ((IntKind.i64.wrap ((r1.length : Int) - x1)).toNat)).drop ((x1).toNat)).length) (cz1 - ((x1).toNat))) (by kernel_rfl) (congrArg (fun z => Value.slice (subA Z1 cz1 ((x1).toNat) 1) z (cz1 - ((x1).toNat))) (show ((IntKind.i64.wrap ((r1.length : Int) - x1)).toNat) - ((x1).toNat) = ((r1.take ((IntKind.i64.wrap ((r1.length : Int) - x1)).toNat)).drop ((x1).toNat)).length by have f0 := hc12; have f1 := hc13; have f2 := (hS10.capAt 0 rfl); simp only [List.length_drop, List.length_take]; omega)) ?_
                  refine ge_batch [7] (ans := []) (vs := [(8, .slice (subA Z1 cz1 ((x1).toNat) 1) (((r1.take ((IntKind.i64.wrap ((r1.length : Int) - x1)).toNat)).drop ((x1).toNat)).length) (cz1 - ((x1).toNat)))]) (l := []) (by kernel_rfl) trivial ?_
                  refine ge_nil fun a hF => hK22 _ _ ?_ a hF
                  refine we_seq fun K23 hK23 => ?_
                  refine we_draws (by kernel_rfl) [(0, 0), (1, 0), (2, 0), (3, 0), (4, 0), (5, 0), (6, 0), (7, 0), (8, 0), (9, 0), (10, 0)] (by kernel_rfl) ?_
                  have hS11 := hS10.drew
                  refine ge_batch [0] (ans := []) (vs := [(56, .slice (subA Z1 cz1 ((x1).toNat) 1) (((r1.take ((IntKind.i64.wrap ((r1.length : Int) - x1)).toNat)).drop ((x1).toNat)).length) (cz1 - ((x1).toNat)))]) (l := []) (by kernel_rfl) trivial ?_
                  rcases hx3 : ((r1.take ((IntKind.i64.wrap ((r1.length : Int) - x1)).toNat)).drop ((x1).toNat))[0]? with _ | e2
                  · rw [hx3] at h; cases h
                  rw [hx3] at h
                  simp only [] at h
                  refine ge_index (d := 57) (ty := 0) (t := 26) (el := 3) (sz := 1) (m := ((r1.take ((IntKind.i64.wrap ((r1.length : Int) - x1)).toNat)).drop ((x1).toNat)).length) (c := (cz1 - ((x1).toNat))) (x := (.tmp 56)) (y := (.const (.int .i64 0))) (A := (subA Z1 cz1 ((x1).toNat) 1)) (k' := .i64) (j := 0) (jn := 0) (b0 := blkOf (subA Z1 cz1 ((x1).toNat) 1)) (o0 := offOf (subA Z1 cz1 ((x1).toNat) 1)) (by kernel_rfl) (by kernel_rfl) (by kernel_rfl) (by kernel_rfl) (by kernel_rfl) ((RdL.part (hS11.rdAt 0 rfl) (hS11.capAt 0 rfl) ((x1).toNat) ((IntKind.i64.wrap ((r1.length : Int) - x1)).toNat)).eqSome (pos_of_get hx3)) rfl (lt_of_get hx3) ?_
                  refine ge_batch [2, 3, 4, 5, 6] (ans := [.val (.int .i64 e2)]) (vs := [(62, .int .i64 (IntKind.i64.wrap ((((r1.take ((IntKind.i64.wrap ((r1.length : Int) - x1)).toNat)).drop ((x1).toNat)).length : Int) - 1))), (61, .int .i64 (((r1.take ((IntKind.i64.wrap ((r1.length : Int) - x1)).toNat)).drop ((x1).toNat)).length : Int)), (60, .slice (subA Z1 cz1 ((x1).toNat) 1) (((r1.take ((IntKind.i64.wrap ((r1.length : Int) - x1)).toNat)).drop ((x1).toNat)).length) (cz1 - ((x1).toNat))), (59, .slice (subA Z1 cz1 ((x1).toNat) 1) (((r1.take ((IntKind.i64.wrap ((r1.length : Int) - x1)).toNat)).drop ((x1).toNat)).length) (cz1 - ((x1).toNat))), (58, .int .i64 e2)]) (l := [.loaded ⟨blkOf (subA Z1 cz1 ((x1).toNat) 1), offOf (subA Z1 cz1 ((x1).toNat) 1) + 0 * 1, none⟩ (.int .i64 e2)]) (by kernel_rfl) ⟨RdL.cell (j := 0) (RdL.part (hS11.rdAt 0 rfl) (hS11.capAt 0 rfl) ((x1).toNat) ((IntKind.i64.wrap ((r1.length : Int) - x1)).toNat)) hx3 rfl, trivial⟩ ?_
                  by_cases hc14 : 0 ≤ (IntKind.i64.wrap ((((r1.take ((IntKind.i64.wrap ((r1.length : Int) - x1)).toNat)).drop ((x1).toNat)).length : Int) - 1))
                  · rw [if_pos hc14] at h
                    rcases hx4 : ((r1.take ((IntKind.i64.wrap ((r1.length : Int) - x1)).toNat)).drop ((x1).toNat))[(IntKind.i64.wrap ((((r1.take ((IntKind.i64.wrap ((r1.length : Int) - x1)).toNat)).drop ((x1).toNat)).length : Int) - 1)).toNat]? with _ | e3
                    · rw [hx4] at h; cases h
                    rw [hx4] at h
                    simp only [] at h
                    refine ge_index (d := 63) (ty := 0) (t := 26) (el := 3) (sz := 1) (m := ((r1.take ((IntKind.i64.wrap ((r1.length : Int) - x1)).toNat)).drop ((x1).toNat)).length) (c := (cz1 - ((x1).toNat))) (x := (.tmp 59)) (y := (.tmp 62)) (A := (subA Z1 cz1 ((x1).toNat) 1)) (k' := .i64) (j := (IntKind.i64.wrap ((((r1.take ((IntKind.i64.wrap ((r1.length : Int) - x1)).toNat)).drop ((x1).toNat)).length : Int) - 1))) (jn := ((IntKind.i64.wrap ((((r1.take ((IntKind.i64.wrap ((r1.length : Int) - x1)).toNat)).drop ((x1).toNat)).length : Int) - 1)).toNat)) (b0 := blkOf (subA Z1 cz1 ((x1).toNat) 1)) (o0 := offOf (subA Z1 cz1 ((x1).toNat) 1)) (by kernel_rfl) (by kernel_rfl) (by kernel_rfl) (by kernel_rfl) (by kernel_rfl) ((RdL.part (hS11.rdAt 0 rfl) (hS11.capAt 0 rfl) ((x1).toNat) ((IntKind.i64.wrap ((r1.length : Int) - x1)).toNat)).eqSome (pos_of_get hx4)) (Int.toNat_of_nonneg hc14).symm (lt_of_get hx4) ?_
                    refine ge_batch [8, 9, 10] (ans := [.val (.int .i64 e3)]) (vs := [(9, .int .i64 (IntKind.i64.wrap (e2 + e3))), (65, .int .i64 (IntKind.i64.wrap (e2 + e3))), (64, .int .i64 e3)]) (l := [.loaded ⟨blkOf (subA Z1 cz1 ((x1).toNat) 1), offOf (subA Z1 cz1 ((x1).toNat) 1) + ((IntKind.i64.wrap ((((r1.take ((IntKind.i64.wrap ((r1.length : Int) - x1)).toNat)).drop ((x1).toNat)).length : Int) - 1)).toNat) * 1, none⟩ (.int .i64 e3)]) (by kernel_rfl) ⟨RdL.cell (j := 0) (RdL.part (hS11.rdAt 0 rfl) (hS11.capAt 0 rfl) ((x1).toNat) ((IntKind.i64.wrap ((r1.length : Int) - x1)).toNat)) hx4 rfl, trivial⟩ ?_
                    refine ge_nil fun a hF => hK23 _ _ ?_ a hF
                    refine we_seq fun K24 hK24 => ?_
                    refine we_seq fun K25 hK25 => ?_
                    refine we_region [(0, 0), (1, 0), (2, 0), (3, 0), (4, 0), (5, 0), (6, 0)] rfl ?_
                    refine ge_batch [0] (ans := []) (vs := [(66, .int .i64 (IntKind.i64.wrap (e2 + e3)))]) (l := []) (by kernel_rfl) trivial ?_
                    refine ge_div (d := 67) (ty := 3) (op := .rem) (x := (.tmp 66)) (y := (.const (.int .i64 2))) (t := 3) (t2 := 3) (k := .i64) (p := (IntKind.i64.wrap (e2 + e3))) (q := 2) (v := .int .i64 (Int.tmod (IntKind.i64.wrap (e2 + e3)) 2)) (by kernel_rfl) (by kernel_rfl) (by kernel_rfl) (by decide) rfl ?_
                    refine ge_batch [2, 3] (ans := []) (vs := [(69, .bool ((Int.tmod (IntKind.i64.wrap (e2 + e3)) 2) != 0)), (68, .bool ((Int.tmod (IntKind.i64.wrap (e2 + e3)) 2) != 0))]) (l := []) (by kernel_rfl) trivial ?_
                    by_cases hc15 : (Int.tmod (IntKind.i64.wrap (e2 + e3)) 2) = 0
                    · rw [if_pos hc15] at h
                      refine ge_known (t := 69) (b := ((Int.tmod (IntKind.i64.wrap (e2 + e3)) 2) != 0)) (c := false) (by kernel_rfl) (bne_eq_false_iff_eq.2 hc15) ?_
                      refine ge_batch [4, 5, 6] (ans := []) (vs := [(72, .bool false), (71, undef), (70, undef)]) (l := []) (by kernel_rfl) trivial ?_
                      refine ge_nil fun a hF => hK25 _ _ ?_ a hF
                      refine we_false (by kernel_rfl) ?_
                      refine we_skip fun a hF => hK24 _ _ ?_ a hF
                      refine we_seq fun K26 hK26 => ?_
                      refine we_region [(0, 0), (1, 0), (2, 0), (3, 0)] rfl ?_
                      refine ge_batch [0] (ans := []) (vs := [(76, .int .i64 (IntKind.i64.wrap (e2 + e3)))]) (l := []) (by kernel_rfl) trivial ?_
                      refine ge_div (d := 77) (ty := 3) (op := .quo) (x := (.tmp 76)) (y := (.const (.int .i64 2))) (t := 3) (t2 := 3) (k := .i64) (p := (IntKind.i64.wrap (e2 + e3))) (q := 2) (v := .int .i64 (IntKind.i64.wrap (Int.tdiv (IntKind.i64.wrap (e2 + e3)) 2))) (by kernel_rfl) (by kernel_rfl) (by kernel_rfl) (by decide) rfl ?_
                      refine ge_batch [2, 3] (ans := []) (vs := [(5, .int .i64 0), (4, .int .i64 (IntKind.i64.wrap (Int.tdiv (IntKind.i64.wrap (e2 + e3)) 2)))]) (l := []) (by kernel_rfl) trivial ?_
                      refine ge_nil fun a hF => hK26 _ _ ?_ a hF
                      have hS12 := hS11.takeN 0
                      obtain rfl := Option.some.inj h
                      exact we_ret (post_ret (rs := [.tmp 4, .tmp 5]) (ans := []) (vs := [.int .i64 (IntKind.i64.wrap (Int.tdiv (IntKind.i64.wrap (e2 + e3)) 2)), .int .i64 0]) (l := []) rfl (by kernel_rfl) trivial ⟨rfl, hS12⟩)
                    · rw [if_neg hc15] at h
                      refine ge_known (t := 69) (b := ((Int.tmod (IntKind.i64.wrap (e2 + e3)) 2) != 0)) (c := true) (by kernel_rfl) (bne_iff_ne.2 hc15) ?_
                      refine ge_batch [4, 5, 6] (ans := []) (vs := [(72, .bool (decide ((IntKind.i64.wrap (e2 + e3)) < 0))), (71, .bool (decide ((IntKind.i64.wrap (e2 + e3)) < 0))), (70, .int .i64 (IntKind.i64.wrap (e2 + e3)))]) (l := []) (by kernel_rfl) trivial ?_
                      refine ge_nil fun a hF => hK25 _ _ ?_ a hF
                      by_cases hc16 : (IntKind.i64.wrap (e2 + e3)) < 0
                      · rw [if_pos hc16] at h
                        refine we_known (t := 72) (b := decide ((IntKind.i64.wrap (e2 + e3)) < 0)) (v := true) (by kernel_rfl) (decide_eq_true hc16) ?_
                        refine we_true (by kernel_rfl) ?_
                        refine we_seq fun K27 hK27 => ?_
                        refine we_region [(0, 0), (1, 0), (2, 0), (3, 0), (4, 0)] rfl ?_
                        refine ge_batch [0, 1] (ans := []) (vs := [(74, .int .i64 (IntKind.i64.wrap ((IntKind.i64.wrap (e2 + e3)) - 1))), (73, .int .i64 (IntKind.i64.wrap (e2 + e3)))]) (l := []) (by kernel_rfl) trivial ?_
                        refine ge_div (d := 75) (ty := 3) (op := .quo) (x := (.tmp 74)) (y := (.const (.int .i64 2))) (t := 3) (t2 := 3) (k := .i64) (p := (IntKind.i64.wrap ((IntKind.i64.wrap (e2 + e3)) - 1))) (q := 2) (v := .int .i64 (IntKind.i64.wrap (Int.tdiv (IntKind.i64.wrap ((IntKind.i64.wrap (e2 + e3)) - 1)) 2))) (by kernel_rfl) (by kernel_rfl) (by kernel_rfl) (by decide) rfl ?_
                        refine ge_batch [3, 4] (ans := []) (vs := [(5, .int .i64 0), (4, .int .i64 (IntKind.i64.wrap (Int.tdiv (IntKind.i64.wrap ((IntKind.i64.wrap (e2 + e3)) - 1)) 2)))]) (l := []) (by kernel_rfl) trivial ?_
                        refine ge_nil fun a hF => hK27 _ _ ?_ a hF
                        have hS13 := hS11.takeN 0
                        obtain rfl := Option.some.inj h
                        exact we_ret (post_ret (rs := [.tmp 4, .tmp 5]) (ans := []) (vs := [.int .i64 (IntKind.i64.wrap (Int.tdiv (IntKind.i64.wrap ((IntKind.i64.wrap (e2 + e3)) - 1)) 2)), .int .i64 0]) (l := []) rfl (by kernel_rfl) trivial ⟨rfl, hS13⟩)
                      · rw [if_neg hc16] at h
                        refine we_known (t := 72) (b := decide ((IntKind.i64.wrap (e2 + e3)) < 0)) (v := false) (by kernel_rfl) (decide_eq_false hc16) ?_
                        refine we_false (by kernel_rfl) ?_
                        refine we_skip fun a hF => hK24 _ _ ?_ a hF
                        refine we_seq fun K28 hK28 => ?_
                        refine we_region [(0, 0), (1, 0), (2, 0), (3, 0)] rfl ?_
                        refine ge_batch [0] (ans := []) (vs := [(76, .int .i64 (IntKind.i64.wrap (e2 + e3)))]) (l := []) (by kernel_rfl) trivial ?_
                        refine ge_div (d := 77) (ty := 3) (op := .quo) (x := (.tmp 76)) (y := (.const (.int .i64 2))) (t := 3) (t2 := 3) (k := .i64) (p := (IntKind.i64.wrap (e2 + e3))) (q := 2) (v := .int .i64 (IntKind.i64.wrap (Int.tdiv (IntKind.i64.wrap (e2 + e3)) 2))) (by kernel_rfl) (by kernel_rfl) (by kernel_rfl) (by decide) rfl ?_
                        refine ge_batch [2, 3] (ans := []) (vs := [(5, .int .i64 0), (4, .int .i64 (IntKind.i64.wrap (Int.tdiv (IntKind.i64.wrap (e2 + e3)) 2)))]) (l := []) (by kernel_rfl) trivial ?_
                        refine ge_nil fun a hF => hK28 _ _ ?_ a hF
                        have hS14 := hS11.takeN 0
                        obtain rfl := Option.some.inj h
                        exact we_ret (post_ret (rs := [.tmp 4, .tmp 5]) (ans := []) (vs := [.int .i64 (IntKind.i64.wrap (Int.tdiv (IntKind.i64.wrap (e2 + e3)) 2)), .int .i64 0]) (l := []) rfl (by kernel_rfl) trivial ⟨rfl, hS14⟩)
                  · rw [if_neg hc14] at h
                    cases h
                · rw [if_neg hc13] at h
                  cases h
              · rw [if_neg hc12] at h
                cases h
            · rw [if_neg hc11] at h
              cases h
          · rw [if_neg hc10] at h
            cases h
        · rw [if_neg hc9] at h
          cases h
      · rw [hq3] at h
        simp only [] at h
        refine we_keep (e' := [(0, .slice A0 l0.length c0), (1, .int .i64 x1)]) ⟨by kernel_rfl, by kernel_rfl, trivial⟩ (pr_MiddleOf_p2 K w0 l0 A0 c0 x1 hR0 hL0 _ hq3 _ hS2 _ ?_)
        rintro _ a w1 ⟨_, rfl, hb⟩
        obtain rfl := Option.some.inj h
        exact hb
    · rw [hq2] at h
      simp only [] at h
      refine we_iter (A := pr_MiddleOf.A1 K w0 l0 A0 c0 x1 hR0 hL0) (B := pr_MiddleOf.B1 K w0 l0 A0 c0 x1 hR0 hL0) hq2 (fun a hF => ⟨hS1, hF.weaken ⟨by kernel_rfl, by kernel_rfl, by kernel_rfl, by kernel_rfl, by kernel_rfl, trivial⟩⟩) (fun s o hf a w hA Q hQ => pr_MiddleOf_r1 K w0 l0 A0 c0 x1 hR0 hL0 s o hf a w hA Q hQ) ?_
      rintro _ a w1 _ ⟨rfl, hb⟩
      obtain rfl := Option.some.inj h
      exact hb
  · rw [hq1] at h
    simp only [] at h
    refine we_keep (e' := [(0, .slice A0 l0.length c0), (1, .int .i64 x1), (4, .int .i64 0), (5, .int .i64 0)]) ⟨by kernel_rfl, by kernel_rfl, by kernel_rfl, by kernel_rfl, trivial⟩ (pr_MiddleOf_p0 K w0 l0 A0 c0 x1 hR0 hL0 _ hq1 _ hS _ ?_)
    rintro _ a w1 ⟨_, rfl, hb⟩
    obtain rfl := Option.some.inj h
    exact hb

/-! punctual/punctualref.RoundOf -/
abbrev pr_RoundOf.Post (w0 : World) (r : (List Int) × SFault) (e : Ending) (w : World) : Prop := ∃ (v0 : Value), e = .returned (.tuple #[v0, .agg #[.int .i64 r.2.Code, .int .i64 r.2.At]]) ∧ St w0 w [Own.of v0 3 r.1]
def pr_RoundOf.p0 (l0 : List (List Int)) (l2 : List Int) : Option (Unit ⊕ ((List Int) × SFault)) :=
    if (l0.length : Int) = 0 then
      some (.inr (([] : List Int), (pr_F.f 2 0)))
    else
      if (l0.length : Int) > 10 then
        some (.inr (([] : List Int), (pr_F.f 2 0)))
      else
        if (l2.length : Int) = (l0.length : Int) then
          some (.inl ())
        else
          some (.inr (([] : List Int), (pr_F.f 2 0)))
def pr_RoundOf.p2 (l0 : List (List Int)) (l2 : List Int) (z1 : Int) (e1 : List Int) : Option (Bool ⊕ ((List Int) × SFault)) :=
    if (e1.length : Int) = (l0.length : Int) then
      match l2[(z1).toNat]? with
      | none => none
      | some e2 =>
        if e2 < (-1099511627776) then
          some (.inl true)
        else
          some (.inl (decide (e2 > 1099511627776)))
    else
      some (.inl true)
def pr_RoundOf.r1 (K : Nat) (l0 : List (List Int)) (x1 : Int) (l2 : List Int) : (List Int) × Int → Option (((List Int) × Int) ⊕ ((List Int) ⊕ ((List Int) × SFault)))
  | (m1, z1) =>
    if z1 < (l0.length : Int) then
      if 0 ≤ z1 then
        match l0[(z1).toNat]? with
        | none => none
        | some e1 =>
          match pr_RoundOf.p2 l0 l2 z1 e1 with
          | none => none
          | some (.inl q2) =>
            if q2 = true then
              some (.inr (.inr (([] : List Int), (pr_F.f 3 z1))))
            else
              match pr_MiddleOf.f K e1 x1 with
              | none => none
              | some r1 =>
                if r1.2 = 0 then
                  match l2[(z1).toNat]? with
                  | none => none
                  | some e3 =>
                    if m1.length < 17592186044416 then
                      some (.inl ((m1 ++ [IntKind.i64.wrap (r1.1 + e3)]), IntKind.i64.wrap (z1 + 1)))
                    else
                      none
                else
                  some (.inr (.inr (([] : List Int), (pr_F.f r1.2 z1))))
          | some (.inr rr1) =>
            some (.inr (.inr rr1))
      else
        none
    else
      some (.inr (.inl m1))
def pr_RoundOf.f (K : Nat) (l0 : List (List Int)) (x1 : Int) (l2 : List Int) : Option ((List Int) × SFault) :=
  match pr_RoundOf.p0 l0 l2 with
  | none => none
  | some (.inl _) =>
    match iter (pr_RoundOf.r1 K l0 x1 l2) K (([] : List Int), 0) with
    | none => none
    | some (.inl m3) =>
      some (m3, (⟨0, 0⟩ : SFault))
    | some (.inr rr2) =>
      some rr2
  | some (.inr rr3) =>
    some rr3
abbrev pr_RoundOf.A0 (K : Nat) (w0 : World) (l0 : List (List Int)) (hd0 : List Hdr) (A0 : Option Addr) (c0 : Nat) (x1 : Int) (l2 : List Int) (A2 : Option Addr) (c2 : Nat) (hR0 : RdL w0 A0 hd0) (hL0 : l0.length ≤ c0) (hN0 : NestL w0 hd0 l0) (hR2 : RdL w0 A2 l2) (hL2 : l2.length ≤ c2) (b1 : Nat) : Unit → Act → World → Prop := fun (s : Unit) a w => St w0 w [Own.blk b1 (.cells #[.int .i64 0, .int .i64 0] 31 (0, 0))] ∧ Frm 80 a [(0, .slice A0 l0.length c0), (1, .int .i64 x1), (2, .slice A2 l2.length c2), (7, .pointer (some ⟨b1, 0, none⟩))]
abbrev pr_RoundOf.B0 (K : Nat) (w0 : World) (l0 : List (List Int)) (hd0 : List Hdr) (A0 : Option Addr) (c0 : Nat) (x1 : Int) (l2 : List Int) (A2 : Option Addr) (c2 : Nat) (hR0 : RdL w0 A0 hd0) (hL0 : l0.length ≤ c0) (hN0 : NestL w0 hd0 l0) (hR2 : RdL w0 A2 l2) (hL2 : l2.length ≤ c2) (b1 : Nat) : ((List Int) × SFault) → Exit → Act → World → Prop := Rets Try.prog Try.f25 (pr_RoundOf.Post w0)
theorem pr_RoundOf_p0 (K : Nat) (w0 : World) (l0 : List (List Int)) (hd0 : List Hdr) (A0 : Option Addr) (c0 : Nat) (x1 : Int) (l2 : List Int) (A2 : Option Addr) (c2 : Nat) (hR0 : RdL w0 A0 hd0) (hL0 : l0.length ≤ c0) (hN0 : NestL w0 hd0 l0) (hR2 : RdL w0 A2 l2) (hL2 : l2.length ≤ c2) (b1 : Nat) (o : Unit ⊕ ((List Int) × SFault)) (h : pr_RoundOf.p0 l0 l2 = some o) (w : World) (hS : St w0 w [Own.blk b1 (.cells #[.int .i64 0, .int .i64 0] 31 (0, 0))]) (Q : Exit → Act → World → Prop) (hQ : ∀ x a w, Outs (pr_RoundOf.A0 K w0 l0 hd0 A0 c0 x1 l2 A2 c2 hR0 hL0 hN0 hR2 hL2 b1) (pr_RoundOf.B0 K w0 l0 hd0 A0 c0 x1 l2 A2 c2 hR0 hL0 hN0 hR2 hL2 b1) o x a w → Q x a w) : WE Try.prog 80 (subF Try.f25 [1, 0]) Q [(0, .slice A0 l0.length c0), (1, .int .i64 x1), (2, .slice A2 l2.length c2), (6, .slice none 0 0), (7, .pointer (some ⟨b1, 0, none⟩))] w := by
  simp only [pr_RoundOf.p0] at h
  refine we_seq fun K3 hK3 => ?_
  refine we_region [(0, 0), (1, 0), (2, 0), (3, 0), (4, 0), (5, 0), (6, 0), (7, 0), (8, 0), (9, 0), (10, 0), (11, 0), (12, 0), (13, 0), (14, 0)] rfl ?_
  refine ge_batch [0, 1, 2, 3] (ans := []) (vs := [(16, .bool ((l0.length : Int) == 0)), (15, .bool ((l0.length : Int) == 0)), (14, .int .i64 (l0.length : Int)), (13, .slice A0 l0.length c0)]) (l := []) (by kernel_rfl) trivial ?_
  by_cases hc1 : (l0.length : Int) = 0
  · rw [if_pos hc1] at h
    refine ge_known (t := 16) (b := ((l0.length : Int) == 0)) (c := true) (by kernel_rfl) (beq_iff_eq.2 hc1) ?_
    refine ge_batch [4, 5, 6, 7, 8, 9, 10, 11, 12, 13, 14] (ans := []) (vs := [(27, .bool true), (26, undef), (25, undef), (24, undef), (23, undef), (22, undef), (21, .bool true), (20, .bool true), (19, undef), (18, undef), (17, undef)]) (l := []) (by kernel_rfl) trivial ?_
    refine ge_nil fun a hF => hK3 _ _ ?_ a hF
    refine we_true (by kernel_rfl) ?_
    refine we_seq fun K4 hK4 => ?_
    refine we_region [(0, 1), (1, 0), (2, 2)] rfl ?_
    refine ge_call (d := some 28) (f := 34) (args := #[.int .i64 2, .int .i64 0]) (by kernel_rfl) (pr_F_ok 2 0 _ _ rfl) ?_
    rintro _ w2 ⟨rfl, hS2⟩
    refine ⟨_, rfl, hS2.below, ?_⟩
    have hS3 := hS.call hS2
    refine ge_batch [1] (ans := []) (vs := [(6, .slice none 0 0)]) (l := []) (by kernel_rfl) trivial ?_
    refine ge_set (b := b1) (j := 0) (cs := #[.int .i64 0, .int .i64 0]) (t := 31) (vs := [.int .i64 ((pr_F.f 2 0).Code), .int .i64 ((pr_F.f 2 0).At)]) hS3 (by kernel_rfl) rfl rfl fun w3 hS4 => ?_
    have hS5 := hS4.nc #[.int .i64 ((pr_F.f 2 0).Code), .int .i64 ((pr_F.f 2 0).At)] (by kernel_rfl)
    refine ge_nil fun a hF => hK4 _ _ ?_ a hF
    have hS6 := hS5.nil (α := Int) 3
    have hS7 := hS6.takeN 1
    obtain rfl := Option.some.inj h
    exact we_ret fun a hF => hQ _ _ _ (Outs.out nofun ⟨rfl, (post_ret (rs := [.tmp 6, .cell 7 31]) (ans := [.val (.int .i64 ((pr_F.f 2 0).Code)), .val (.int .i64 ((pr_F.f 2 0).At))]) (vs := [(.slice none 0 0), .agg #[.int .i64 ((pr_F.f 2 0).Code), .int .i64 ((pr_F.f 2 0).At)]]) (l := [.loaded ⟨b1, 0, none⟩ (.int .i64 ((pr_F.f 2 0).Code)), .loaded ⟨b1, 1, none⟩ (.int .i64 ((pr_F.f 2 0).At))]) rfl (by kernel_rfl) ⟨hS6.cell 1 rfl rfl, hS6.cell 1 rfl rfl, trivial⟩ ⟨(.slice none 0 0), rfl, hS7⟩) a hF⟩)
  · rw [if_neg hc1] at h
    refine ge_known (t := 16) (b := ((l0.length : Int) == 0)) (c := false) (by kernel_rfl) (beq_eq_false_iff_ne.2 hc1) ?_
    refine ge_batch [4, 5, 6, 7, 8] (ans := []) (vs := [(21, .bool (decide ((l0.length : Int) > 10))), (20, .bool (decide ((l0.length : Int) > 10))), (19, .bool (decide ((l0.length : Int) > 10))), (18, .int .i64 (l0.length : Int)), (17, .slice A0 l0.length c0)]) (l := []) (by kernel_rfl) trivial ?_
    by_cases hc2 : (l0.length : Int) > 10
    · rw [if_pos hc2] at h
      refine ge_known (t := 21) (b := decide ((l0.length : Int) > 10)) (c := true) (by kernel_rfl) (decide_eq_true hc2) ?_
      refine ge_batch [9, 10, 11, 12, 13, 14] (ans := []) (vs := [(27, .bool true), (26, undef), (25, undef), (24, undef), (23, undef), (22, undef)]) (l := []) (by kernel_rfl) trivial ?_
      refine ge_nil fun a hF => hK3 _ _ ?_ a hF
      refine we_true (by kernel_rfl) ?_
      refine we_seq fun K5 hK5 => ?_
      refine we_region [(0, 1), (1, 0), (2, 2)] rfl ?_
      refine ge_call (d := some 28) (f := 34) (args := #[.int .i64 2, .int .i64 0]) (by kernel_rfl) (pr_F_ok 2 0 _ _ rfl) ?_
      rintro _ w4 ⟨rfl, hS8⟩
      refine ⟨_, rfl, hS8.below, ?_⟩
      have hS9 := hS.call hS8
      refine ge_batch [1] (ans := []) (vs := [(6, .slice none 0 0)]) (l := []) (by kernel_rfl) trivial ?_
      refine ge_set (b := b1) (j := 0) (cs := #[.int .i64 0, .int .i64 0]) (t := 31) (vs := [.int .i64 ((pr_F.f 2 0).Code), .int .i64 ((pr_F.f 2 0).At)]) hS9 (by kernel_rfl) rfl rfl fun w5 hS10 => ?_
      have hS11 := hS10.nc #[.int .i64 ((pr_F.f 2 0).Code), .int .i64 ((pr_F.f 2 0).At)] (by kernel_rfl)
      refine ge_nil fun a hF => hK5 _ _ ?_ a hF
      have hS12 := hS11.nil (α := Int) 3
      have hS13 := hS12.takeN 1
      obtain rfl := Option.some.inj h
      exact we_ret fun a hF => hQ _ _ _ (Outs.out nofun ⟨rfl, (post_ret (rs := [.tmp 6, .cell 7 31]) (ans := [.val (.int .i64 ((pr_F.f 2 0).Code)), .val (.int .i64 ((pr_F.f 2 0).At))]) (vs := [(.slice none 0 0), .agg #[.int .i64 ((pr_F.f 2 0).Code), .int .i64 ((pr_F.f 2 0).At)]]) (l := [.loaded ⟨b1, 0, none⟩ (.int .i64 ((pr_F.f 2 0).Code)), .loaded ⟨b1, 1, none⟩ (.int .i64 ((pr_F.f 2 0).At))]) rfl (by kernel_rfl) ⟨hS12.cell 1 rfl rfl, hS12.cell 1 rfl rfl, trivial⟩ ⟨(.slice none 0 0), rfl, hS13⟩) a hF⟩)
    · rw [if_neg hc2] at h
      refine ge_known (t := 21) (b := decide ((l0.length : Int) > 10)) (c := false) (by kernel_rfl) (decide_eq_false hc2) ?_
      refine ge_batch [9, 10, 11, 12, 13, 14] (ans := []) (vs := [(27, .bool ((l2.length : Int) != (l0.length : Int))), (26, .bool ((l2.length : Int) != (l0.length : Int))), (25, .int .i64 (l0.length : Int)), (24, .slice A0 l0.length c0), (23, .int .i64 (l2.length : Int)), (22, .slice A2 l2.length c2)]) (l := []) (by kernel_rfl) trivial ?_
      refine ge_nil fun a hF => hK3 _ _ ?_ a hF
      by_cases hc3 : (l2.length : Int) = (l0.length : Int)
      · rw [if_pos hc3] at h
        refine we_known (t := 27) (b := ((l2.length : Int) != (l0.length : Int))) (v := false) (by kernel_rfl) (bne_eq_false_iff_eq.2 hc3) ?_
        refine we_false (by kernel_rfl) ?_
        obtain rfl := Option.some.inj h
        exact we_skip fun a hF => hQ _ _ _ (Outs.again ⟨hS, hF.weaken ⟨by kernel_rfl, by kernel_rfl, by kernel_rfl, by kernel_rfl, trivial⟩⟩)
      · rw [if_neg hc3] at h
        refine we_known (t := 27) (b := ((l2.length : Int) != (l0.length : Int))) (v := true) (by kernel_rfl) (bne_iff_ne.2 hc3) ?_
        refine we_true (by kernel_rfl) ?_
        refine we_seq fun K6 hK6 => ?_
        refine we_region [(0, 1), (1, 0), (2, 2)] rfl ?_
        refine ge_call (d := some 28) (f := 34) (args := #[.int .i64 2, .int .i64 0]) (by kernel_rfl) (pr_F_ok 2 0 _ _ rfl) ?_
        rintro _ w6 ⟨rfl, hS14⟩
        refine ⟨_, rfl, hS14.below, ?_⟩
        have hS15 := hS.call hS14
        refine ge_batch [1] (ans := []) (vs := [(6, .slice none 0 0)]) (l := []) (by kernel_rfl) trivial ?_
        refine ge_set (b := b1) (j := 0) (cs := #[.int .i64 0, .int .i64 0]) (t := 31) (vs := [.int .i64 ((pr_F.f 2 0).Code), .int .i64 ((pr_F.f 2 0).At)]) hS15 (by kernel_rfl) rfl rfl fun w7 hS16 => ?_
        have hS17 := hS16.nc #[.int .i64 ((pr_F.f 2 0).Code), .int .i64 ((pr_F.f 2 0).At)] (by kernel_rfl)
        refine ge_nil fun a hF => hK6 _ _ ?_ a hF
        have hS18 := hS17.nil (α := Int) 3
        have hS19 := hS18.takeN 1
        obtain rfl := Option.some.inj h
        exact we_ret fun a hF => hQ _ _ _ (Outs.out nofun ⟨rfl, (post_ret (rs := [.tmp 6, .cell 7 31]) (ans := [.val (.int .i64 ((pr_F.f 2 0).Code)), .val (.int .i64 ((pr_F.f 2 0).At))]) (vs := [(.slice none 0 0), .agg #[.int .i64 ((pr_F.f 2 0).Code), .int .i64 ((pr_F.f 2 0).At)]]) (l := [.loaded ⟨b1, 0, none⟩ (.int .i64 ((pr_F.f 2 0).Code)), .loaded ⟨b1, 1, none⟩ (.int .i64 ((pr_F.f 2 0).At))]) rfl (by kernel_rfl) ⟨hS18.cell 1 rfl rfl, hS18.cell 1 rfl rfl, trivial⟩ ⟨(.slice none 0 0), rfl, hS19⟩) a hF⟩)
abbrev pr_RoundOf.A2 (K : Nat) (w0 : World) (l0 : List (List Int)) (hd0 : List Hdr) (A0 : Option Addr) (c0 : Nat) (x1 : Int) (l2 : List Int) (A2 : Option Addr) (c2 : Nat) (hR0 : RdL w0 A0 hd0) (hL0 : l0.length ≤ c0) (hN0 : NestL w0 hd0 l0) (hR2 : RdL w0 A2 l2) (hL2 : l2.length ≤ c2) (b1 : Nat) (m1 : List Int) (z1 : Int) (hc4 : z1 < (l0.length : Int)) (hc5 : 0 ≤ z1) (e1 : List Int) (hx2 : l0[(z1).toNat]? = some e1) (An1 : Option Addr) (cn1 : Nat) (hxn1 : hd0[(z1).toNat]? = some ⟨An1, e1.length, cn1⟩) (hRn1 : RdL w0 An1 e1) (hLn1 : e1.length ≤ cn1) (Z1 : Option Addr) (cz1 : Nat) : Bool → Act → World → Prop := fun (s : Bool) a w => St w0 w [Own.blk b1 (.cells #[.int .i64 0, .int .i64 0] 31 (0, 0)), Own.of (.slice Z1 m1.length cz1) 3 m1] ∧ Frm 80 a [(0, .slice A0 l0.length c0), (1, .int .i64 x1), (2, .slice A2 l2.length c2), (7, .pointer (some ⟨b1, 0, none⟩)), (8, (.slice Z1 m1.length cz1)), (9, .int .i64 z1), (10, .slice An1 e1.length cn1), (29, .slice A0 l0.length c0), (30, .int .i64 (l0.length : Int)), (31, .int .i64 z1), (54, .bool s)]
abbrev pr_RoundOf.B2 (K : Nat) (w0 : World) (l0 : List (List Int)) (hd0 : List Hdr) (A0 : Option Addr) (c0 : Nat) (x1 : Int) (l2 : List Int) (A2 : Option Addr) (c2 : Nat) (hR0 : RdL w0 A0 hd0) (hL0 : l0.length ≤ c0) (hN0 : NestL w0 hd0 l0) (hR2 : RdL w0 A2 l2) (hL2 : l2.length ≤ c2) (b1 : Nat) (m1 : List Int) (z1 : Int) (hc4 : z1 < (l0.length : Int)) (hc5 : 0 ≤ z1) (e1 : List Int) (hx2 : l0[(z1).toNat]? = some e1) (An1 : Option Addr) (cn1 : Nat) (hxn1 : hd0[(z1).toNat]? = some ⟨An1, e1.length, cn1⟩) (hRn1 : RdL w0 An1 e1) (hLn1 : e1.length ≤ cn1) (Z1 : Option Addr) (cz1 : Nat) : ((List Int) × SFault) → Exit → Act → World → Prop := Rets Try.prog Try.f25 (pr_RoundOf.Post w0)
theorem pr_RoundOf_p2 (K : Nat) (w0 : World) (l0 : List (List Int)) (hd0 : List Hdr) (A0 : Option Addr) (c0 : Nat) (x1 : Int) (l2 : List Int) (A2 : Option Addr) (c2 : Nat) (hR0 : RdL w0 A0 hd0) (hL0 : l0.length ≤ c0) (hN0 : NestL w0 hd0 l0) (hR2 : RdL w0 A2 l2) (hL2 : l2.length ≤ c2) (b1 : Nat) (m1 : List Int) (z1 : Int) (hc4 : z1 < (l0.length : Int)) (hc5 : 0 ≤ z1) (e1 : List Int) (hx2 : l0[(z1).toNat]? = some e1) (An1 : Option Addr) (cn1 : Nat) (hxn1 : hd0[(z1).toNat]? = some ⟨An1, e1.length, cn1⟩) (hRn1 : RdL w0 An1 e1) (hLn1 : e1.length ≤ cn1) (Z1 : Option Addr) (cz1 : Nat) (o : Bool ⊕ ((List Int) × SFault)) (h : pr_RoundOf.p2 l0 l2 z1 e1 = some o) (w : World) (hS : St w0 w [Own.blk b1 (.cells #[.int .i64 0, .int .i64 0] 31 (0, 0)), Own.of (.slice Z1 m1.length cz1) 3 m1]) (Q : Exit → Act → World → Prop) (hQ : ∀ x a w, Outs (pr_RoundOf.A2 K w0 l0 hd0 A0 c0 x1 l2 A2 c2 hR0 hL0 hN0 hR2 hL2 b1 m1 z1 hc4 hc5 e1 hx2 An1 cn1 hxn1 hRn1 hLn1 Z1 cz1) (pr_RoundOf.B2 K w0 l0 hd0 A0 c0 x1 l2 A2 c2 hR0 hL0 hN0 hR2 hL2 b1 m1 z1 hc4 hc5 e1 hx2 An1 cn1 hxn1 hRn1 hLn1 Z1 cz1) o x a w → Q x a w) : WE Try.prog 80 (subF Try.f25 [1, 1, 1, 0, 1, 0, 0, 1, 1, 0, 0, 1, 0, 0]) Q [(0, .slice A0 l0.length c0), (1, .int .i64 x1), (2, .slice A2 l2.length c2), (7, .pointer (some ⟨b1, 0, none⟩)), (8, (.slice Z1 m1.length cz1)), (9, .int .i64 z1), (10, .slice An1 e1.length cn1), (29, .slice A0 l0.length c0), (30, .int .i64 (l0.length : Int)), (31, .int .i64 z1), (32, .bool true), (33, .int .i64 z1), (34, .pointer (some ⟨blkOf A0, offOf A0 + (z1).toNat * 1, none⟩)), (35, .slice An1 e1.length cn1)] w := by
  simp only [pr_RoundOf.p2] at h
  refine we_region [(0, 0), (1, 0), (2, 0), (3, 0), (4, 0), (5, 0), (6, 0), (7, 0), (8, 0), (9, 0), (10, 0), (11, 0), (12, 0), (13, 0), (14, 0), (15, 0), (16, 0), (17, 0), (18, 0)] rfl ?_
  refine ge_batch [0, 1, 2, 3, 4, 5] (ans := []) (vs := [(41, .bool ((e1.length : Int) != (l0.length : Int))), (40, .bool ((e1.length : Int) != (l0.length : Int))), (39, .int .i64 (l0.length : Int)), (38, .slice A0 l0.length c0), (37, .int .i64 (e1.length : Int)), (36, .slice An1 e1.length cn1)]) (l := []) (by kernel_rfl) trivial ?_
  by_cases hc6 : (e1.length : Int) = (l0.length : Int)
  · rw [if_pos hc6] at h
    refine ge_known (t := 41) (b := ((e1.length : Int) != (l0.length : Int))) (c := false) (by kernel_rfl) (bne_eq_false_iff_eq.2 hc6) ?_
    refine ge_batch [6, 7] (ans := []) (vs := [(43, .int .i64 z1), (42, .slice A2 l2.length c2)]) (l := []) (by kernel_rfl) trivial ?_
    rcases hx3 : l2[(z1).toNat]? with _ | e2
    · rw [hx3] at h; cases h
    rw [hx3] at h
    simp only [] at h
    refine ge_index (d := 44) (ty := 0) (t := 26) (el := 3) (sz := 1) (m := l2.length) (c := c2) (x := (.tmp 42)) (y := (.tmp 43)) (A := A2) (k' := .i64) (j := z1) (jn := ((z1).toNat)) (b0 := blkOf A2) (o0 := offOf A2) (by kernel_rfl) (by kernel_rfl) (by kernel_rfl) (by kernel_rfl) (by kernel_rfl) ((hS.rd hR2).eqSome (pos_of_get hx3)) (Int.toNat_of_nonneg hc5).symm (lt_of_get hx3) ?_
    refine ge_batch [9, 10, 11, 12] (ans := [.val (.int .i64 e2)]) (vs := [(48, .bool (decide (e2 < (-1099511627776)))), (47, .bool (decide (e2 < (-1099511627776)))), (46, .bool (decide (e2 < (-1099511627776)))), (45, .int .i64 e2)]) (l := [.loaded ⟨blkOf A2, offOf A2 + ((z1).toNat) * 1, none⟩ (.int .i64 e2)]) (by kernel_rfl) ⟨RdL.cell (j := 0) (hS.rd hR2) hx3 rfl, trivial⟩ ?_
    by_cases hc7 : e2 < (-1099511627776)
    · rw [if_pos hc7] at h
      refine ge_known (t := 48) (b := decide (e2 < (-1099511627776))) (c := true) (by kernel_rfl) (decide_eq_true hc7) ?_
      refine ge_batch [13, 14, 15, 16, 17, 18] (ans := []) (vs := [(54, .bool true), (53, undef), (52, undef), (51, undef), (50, undef), (49, undef)]) (l := []) (by kernel_rfl) trivial ?_
      have hS23 := hS.bring 1 rfl
      have hS24 := hS23.bring 1 rfl
      obtain rfl := Option.some.inj h
      exact ge_nil fun a hF => hQ _ _ _ (Outs.again ⟨hS24, hF.weaken ⟨by kernel_rfl, by kernel_rfl, by kernel_rfl, by kernel_rfl, by kernel_rfl, by kernel_rfl, by kernel_rfl, by kernel_rfl, by kernel_rfl, by kernel_rfl, by kernel_rfl, trivial⟩⟩)
    · rw [if_neg hc7] at h
      refine ge_known (t := 48) (b := decide (e2 < (-1099511627776))) (c := false) (by kernel_rfl) (decide_eq_false hc7) ?_
      refine ge_batch [13, 14] (ans := []) (vs := [(50, .int .i64 z1), (49, .slice A2 l2.length c2)]) (l := []) (by kernel_rfl) trivial ?_
      refine ge_index (d := 51) (ty := 0) (t := 26) (el := 3) (sz := 1) (m := l2.length) (c := c2) (x := (.tmp 49)) (y := (.tmp 50)) (A := A2) (k' := .i64) (j := z1) (jn := ((z1).toNat)) (b0 := blkOf A2) (o0 := offOf A2) (by kernel_rfl) (by kernel_rfl) (by kernel_rfl) (by kernel_rfl) (by kernel_rfl) ((hS.rd hR2).eqSome (pos_of_get hx3)) (Int.toNat_of_nonneg hc5).symm (lt_of_get hx3) ?_
      refine ge_batch [16, 17, 18] (ans := [.val (.int .i64 e2)]) (vs := [(54, .bool (decide (e2 > 1099511627776))), (53, .bool (decide (e2 > 1099511627776))), (52, .int .i64 e2)]) (l := [.loaded ⟨blkOf A2, offOf A2 + ((z1).toNat) * 1, none⟩ (.int .i64 e2)]) (by kernel_rfl) ⟨RdL.cell (j := 0) (hS.rd hR2) hx3 rfl, trivial⟩ ?_
      have hS25 := hS.bring 1 rfl
      have hS26 := hS25.bring 1 rfl
      obtain rfl := Option.some.inj h
      exact ge_nil fun a hF => hQ _ _ _ (Outs.again ⟨hS26, hF.weaken ⟨by kernel_rfl, by kernel_rfl, by kernel_rfl, by kernel_rfl, by kernel_rfl, by kernel_rfl, by kernel_rfl, by kernel_rfl, by kernel_rfl, by kernel_rfl, by kernel_rfl, trivial⟩⟩)
  · rw [if_neg hc6] at h
    refine ge_known (t := 41) (b := ((e1.length : Int) != (l0.length : Int))) (c := true) (by kernel_rfl) (bne_iff_ne.2 hc6) ?_
    refine ge_batch [6, 7, 8, 9, 10, 11, 12, 13, 14, 15, 16, 17, 18] (ans := []) (vs := [(54, .bool true), (53, undef), (52, undef), (51, undef), (50, undef), (49, undef), (48, .bool true), (47, .bool true), (46, undef), (45, undef), (44, undef), (43, undef), (42, undef)]) (l := []) (by kernel_rfl) trivial ?_
    have hS27 := hS.bring 1 rfl
    have hS28 := hS27.bring 1 rfl
    obtain rfl := Option.some.inj h
    exact ge_nil fun a hF => hQ _ _ _ (Outs.again ⟨hS28, hF.weaken ⟨by kernel_rfl, by kernel_rfl, by kernel_rfl, by kernel_rfl, by kernel_rfl, by kernel_rfl, by kernel_rfl, by kernel_rfl, by kernel_rfl, by kernel_rfl, by kernel_rfl, trivial⟩⟩)
abbrev pr_RoundOf.A1 (K : Nat) (w0 : World) (l0 : List (List Int)) (hd0 : List Hdr) (A0 : Option Addr) (c0 : Nat) (x1 : Int) (l2 : List Int) (A2 : Option Addr) (c2 : Nat) (hR0 : RdL w0 A0 hd0) (hL0 : l0.length ≤ c0) (hN0 : NestL w0 hd0 l0) (hR2 : RdL w0 A2 l2) (hL2 : l2.length ≤ c2) (b1 : Nat) : ((List Int) × Int) → Act → World → Prop := fun (s : (List Int) × Int) a w => ∃ (v1 : Value), St w0 w [Own.blk b1 (.cells #[.int .i64 0, .int .i64 0] 31 (0, 0)), Own.of v1 3 s.1] ∧ Frm 80 a [(0, .slice A0 l0.length c0), (1, .int .i64 x1), (2, .slice A2 l2.length c2), (7, .pointer (some ⟨b1, 0, none⟩)), (8, v1), (29, .slice A0 l0.length c0), (30, .int .i64 (l0.length : Int)), (31, .int .i64 s.2)]
abbrev pr_RoundOf.B1 (K : Nat) (w0 : World) (l0 : List (List Int)) (hd0 : List Hdr) (A0 : Option Addr) (c0 : Nat) (x1 : Int) (l2 : List Int) (A2 : Option Addr) (c2 : Nat) (hR0 : RdL w0 A0 hd0) (hL0 : l0.length ≤ c0) (hN0 : NestL w0 hd0 l0) (hR2 : RdL w0 A2 l2) (hL2 : l2.length ≤ c2) (b1 : Nat) : ((List Int) ⊕ ((List Int) × SFault)) → Exit → Act → World → Prop := Exits 0 (fun (s : (List Int)) a w => ∃ (v2 : Value), St w0 w [Own.blk b1 (.cells #[.int .i64 0, .int .i64 0] 31 (0, 0)), Own.of v2 3 s] ∧ Frm 80 a [(7, .pointer (some ⟨b1, 0, none⟩)), (8, v2)]) (Rets Try.prog Try.f25 (pr_RoundOf.Post w0))
theorem pr_RoundOf_r1 (K : Nat) (w0 : World) (l0 : List (List Int)) (hd0 : List Hdr) (A0 : Option Addr) (c0 : Nat) (x1 : Int) (l2 : List Int) (A2 : Option Addr) (c2 : Nat) (hR0 : RdL w0 A0 hd0) (hL0 : l0.length ≤ c0) (hN0 : NestL w0 hd0 l0) (hR2 : RdL w0 A2 l2) (hL2 : l2.length ≤ c2) (b1 : Nat) (s : (List Int) × Int) (o : ((List Int) × Int) ⊕ ((List Int) ⊕ ((List Int) × SFault))) (h : pr_RoundOf.r1 K l0 x1 l2 s = some o) (a : Act) (w : World) (hA : pr_RoundOf.A1 K w0 l0 hd0 A0 c0 x1 l2 A2 c2 hR0 hL0 hN0 hR2 hL2 b1 s a w) (Q : Exit → Act → World → Prop) (hQ : ∀ x a w, Outs (pr_RoundOf.A1 K w0 l0 hd0 A0 c0 x1 l2 A2 c2 hR0 hL0 hN0 hR2 hL2 b1) (pr_RoundOf.B1 K w0 l0 hd0 A0 c0 x1 l2 A2 c2 hR0 hL0 hN0 hR2 hL2 b1) o x a w → Q x a w) : (subF Try.f25 [1, 1, 1, 0, 1, 0, 0]).wp Try.prog Q a w := by
  obtain ⟨m1, z1⟩ := s
  obtain ⟨v1, hS, hF⟩ := hA
  replace hS : St w0 w [Own.blk b1 (.cells #[.int .i64 0, .int .i64 0] 31 (0, 0)), Own.of v1 3 m1] := hS
  simp only [pr_RoundOf.r1] at h
  refine (?_ : WE Try.prog 80 (subF Try.f25 [1, 1, 1, 0, 1, 0, 0]) Q [(0, .slice A0 l0.length c0), (1, .int .i64 x1), (2, .slice A2 l2.length c2), (7, .pointer (some ⟨b1, 0, none⟩)), (8, v1), (29, .slice A0 l0.length c0), (30, .int .i64 (l0.length : Int)), (31, .int .i64 z1)] w) a hF
  clear hF a
  refine we_seq fun K10 hK10 => ?_
  refine we_region [(0, 0)] rfl ?_
  refine ge_batch [0] (ans := []) (vs := [(32, .bool (decide (z1 < (l0.length : Int))))]) (l := []) (by kernel_rfl) trivial ?_
  refine ge_nil fun a hF => hK10 _ _ ?_ a hF
  refine we_seq fun K11 hK11 => ?_
  by_cases hc4 : z1 < (l0.length : Int)
  · rw [if_pos hc4] at h
    refine we_known (t := 32) (b := decide (z1 < (l0.length : Int))) (v := true) (by kernel_rfl) (decide_eq_true hc4) ?_
    refine we_true (by kernel_rfl) ?_
    refine we_skip fun a hF => hK11 _ _ ?_ a hF
    refine we_seq fun K12 hK12 => ?_
    refine we_block ?_
    refine we_seq fun K13 hK13 => ?_
    refine we_region [(0, 0), (1, 0), (2, 0), (3, 0), (4, 0)] rfl ?_
    refine ge_batch [0] (ans := []) (vs := [(33, .int .i64 z1)]) (l := []) (by kernel_rfl) trivial ?_
    by_cases hc5 : 0 ≤ z1
    · rw [if_pos hc5] at h
      rcases hx2 : l0[(z1).toNat]? with _ | e1
      · rw [hx2] at h; cases h
      rw [hx2] at h
      simp only [] at h
      obtain ⟨An1, cn1, hxn1, hRn1, hLn1⟩ := hN0.get hx2
      refine ge_index (d := 34) (ty := 0) (t := 51) (el := 26) (sz := 1) (m := l0.length) (c := c0) (x := (.tmp 29)) (y := (.tmp 31)) (A := A0) (k' := .i64) (j := z1) (jn := ((z1).toNat)) (b0 := blkOf A0) (o0 := offOf A0) (by kernel_rfl) (by kernel_rfl) (by kernel_rfl) (by kernel_rfl) (by kernel_rfl) ((hS.rd hR0).eqSome (pos_of_get hxn1)) (Int.toNat_of_nonneg hc5).symm (lt_of_get hx2) ?_
      refine ge_batch [2, 3, 4] (ans := [.val (.slice An1 e1.length cn1)]) (vs := [(10, .slice An1 e1.length cn1), (9, .int .i64 z1), (35, .slice An1 e1.length cn1)]) (l := [.loaded ⟨blkOf A0, offOf A0 + ((z1).toNat) * 1, none⟩ (.slice An1 e1.length cn1)]) (by kernel_rfl) ⟨RdL.cell (j := 0) (hS.rd hR0) hxn1 rfl, trivial⟩ ?_
      refine ge_nil fun a hF => hK13 _ _ ?_ a hF
      refine we_seq fun K14 hK14 => ?_
      refine we_seq fun K15 hK15 => ?_
      obtain ⟨Z1, cz1, rfl⟩ := hS.open 1 rfl
      rcases hq5 : pr_RoundOf.p2 l0 l2 z1 e1 with _ | (q2 | rr1)
      · rw [hq5] at h; cases h
      · rw [hq5] at h
        simp only [] at h
        refine we_keep (e' := [(0, .slice A0 l0.length c0), (1, .int .i64 x1), (2, .slice A2 l2.length c2), (7, .pointer (some ⟨b1, 0, none⟩)), (8, (.slice Z1 m1.length cz1)), (9, .int .i64 z1), (10, .slice An1 e1.length cn1), (29, .slice A0 l0.length c0), (30, .int .i64 (l0.length : Int)), (31, .int .i64 z1), (32, .bool true), (33, .int .i64 z1), (34, .pointer (some ⟨blkOf A0, offOf A0 + (z1).toNat * 1, none⟩)), (35, .slice An1 e1.length cn1)]) ⟨by kernel_rfl, by kernel_rfl, by kernel_rfl, by kernel_rfl, by kernel_rfl, by kernel_rfl, by kernel_rfl, by kernel_rfl, by kernel_rfl, by kernel_rfl, by kernel_rfl, by kernel_rfl, by kernel_rfl, by kernel_rfl, trivial⟩ (pr_RoundOf_p2 K w0 l0 hd0 A0 c0 x1 l2 A2 c2 hR0 hL0 hN0 hR2 hL2 b1 m1 z1 hc4 hc5 e1 hx2 An1 cn1 hxn1 hRn1 hLn1 Z1 cz1 _ hq5 _ hS _ ?_)
        rintro _ a w9 ⟨rfl, hS29, hF⟩
        replace hS29 : St w0 w9 [Own.blk b1 (.cells #[.int .i64 0, .int .i64 0] 31 (0, 0)), Own.of (.slice Z1 m1.length cz1) 3 m1] := hS29
        refine hK15 [(0, .slice A0 l0.length c0), (1, .int .i64 x1), (2, .slice A2 l2.length c2), (7, .pointer (some ⟨b1, 0, none⟩)), (8, (.slice Z1 m1.length cz1)), (9, .int .i64 z1), (10, .slice An1 e1.length cn1), (29, .slice A0 l0.length c0), (30, .int .i64 (l0.length : Int)), (31, .int .i64 z1), (54, .bool q2)] w9 ?_ a hF
        by_cases hc8 : q2 = true
        · rw [if_pos hc8] at h
          refine we_known (t := 54) (b := q2) (v := true) (by kernel_rfl) hc8 ?_
          refine we_true (by kernel_rfl) ?_
          refine we_seq fun K16 hK16 => ?_
          refine we_region [(0, 0), (1, 1), (2, 0), (3, 2)] rfl ?_
          refine ge_batch [0] (ans := []) (vs := [(55, .int .i64 z1)]) (l := []) (by kernel_rfl) trivial ?_
          refine ge_call (d := some 56) (f := 34) (args := #[.int .i64 3, .int .i64 z1]) (by kernel_rfl) (pr_F_ok 3 z1 _ _ rfl) ?_
          rintro _ w10 ⟨rfl, hS30⟩
          refine ⟨_, rfl, hS30.below, ?_⟩
          have hS31 := hS29.call hS30
          refine ge_batch [2] (ans := []) (vs := [(6, .slice none 0 0)]) (l := []) (by kernel_rfl) trivial ?_
          refine ge_set (b := b1) (j := 0) (cs := #[.int .i64 0, .int .i64 0]) (t := 31) (vs := [.int .i64 ((pr_F.f 3 z1).Code), .int .i64 ((pr_F.f 3 z1).At)]) hS31 (by kernel_rfl) rfl rfl fun w11 hS32 => ?_
          have hS33 := hS32.nc #[.int .i64 ((pr_F.f 3 z1).Code), .int .i64 ((pr_F.f 3 z1).At)] (by kernel_rfl)
          refine ge_nil fun a hF => hK16 _ _ ?_ a hF
          have hS34 := hS33.nil (α := Int) 3
          have hS35 := hS34.takeN 1
          obtain rfl := Option.some.inj h
          exact we_ret fun a hF => hQ _ _ _ (Outs.out nofun (Exits.on ⟨rfl, (post_ret (rs := [.tmp 6, .cell 7 31]) (ans := [.val (.int .i64 ((pr_F.f 3 z1).Code)), .val (.int .i64 ((pr_F.f 3 z1).At))]) (vs := [(.slice none 0 0), .agg #[.int .i64 ((pr_F.f 3 z1).Code), .int .i64 ((pr_F.f 3 z1).At)]]) (l := [.loaded ⟨b1, 0, none⟩ (.int .i64 ((pr_F.f 3 z1).Code)), .loaded ⟨b1, 1, none⟩ (.int .i64 ((pr_F.f 3 z1).At))]) rfl (by kernel_rfl) ⟨hS34.cell 1 rfl rfl, hS34.cell 1 rfl rfl, trivial⟩ ⟨(.slice none 0 0), rfl, hS35⟩) a hF⟩))
        · rw [if_neg hc8] at h
          refine we_known (t := 54) (b := q2) (v := false) (by kernel_rfl) (Bool.eq_false_iff.2 hc8) ?_
          refine we_false (by kernel_rfl) ?_
          refine we_skip fun a hF => hK14 _ _ ?_ a hF
          refine we_seq fun K17 hK17 => ?_
          refine we_region [(0, 0), (1, 0), (2, 1), (3, 0), (4, 0), (5, 0), (6, 0), (7, 0)] rfl ?_
          rcases hq7 : pr_MiddleOf.f K e1 x1 with _ | r1
          · rw [hq7] at h; cases h
          rw [hq7] at h
          simp only [] at h
          refine ge_batch [0, 1] (ans := []) (vs := [(59, .int .i64 x1), (58, .slice An1 e1.length cn1)]) (l := []) (by kernel_rfl) trivial ?_
          refine ge_call (d := some 60) (f := 29) (args := #[.slice An1 e1.length cn1, .int .i64 x1]) (by kernel_rfl) (pr_MiddleOf_ok K e1 An1 cn1 x1 _ (hS29.rd hRn1) hLn1 _ hq7) ?_
          rintro _ w12 ⟨rfl, hS36⟩
          refine ⟨_, rfl, hS36.below, ?_⟩
          have hS37 := hS29.call hS36
          refine ge_batch [3, 4, 5, 6, 7] (ans := []) (vs := [(12, .int .i64 r1.2), (11, .int .i64 r1.1), (62, .int .i64 r1.2), (61, .int .i64 r1.1), (57, .tuple #[.int .i64 r1.1, .int .i64 r1.2])]) (l := []) (by kernel_rfl) trivial ?_
          refine ge_nil fun a hF => hK17 _ _ ?_ a hF
          refine we_seq fun K18 hK18 => ?_
          refine we_seq fun K19 hK19 => ?_
          refine we_region [(0, 0), (1, 0)] rfl ?_
          refine ge_batch [0, 1] (ans := []) (vs := [(64, .bool (r1.2 != 0)), (63, .int .i64 r1.2)]) (l := []) (by kernel_rfl) trivial ?_
          refine ge_nil fun a hF => hK19 _ _ ?_ a hF
          by_cases hc9 : r1.2 = 0
          · rw [if_pos hc9] at h
            refine we_known (t := 64) (b := (r1.2 != 0)) (v := false) (by kernel_rfl) (bne_eq_false_iff_eq.2 hc9) ?_
            refine we_false (by kernel_rfl) ?_
            refine we_skip fun a hF => hK18 _ _ ?_ a hF
            refine we_region [(0, 0), (1, 0), (2, 0), (3, 0), (4, 0), (5, 0), (6, 0), (7, 1), (8, 2), (9, 0)] rfl ?_
            refine ge_batch [0, 1, 2, 3] (ans := []) (vs := [(71, .int .i64 z1), (70, .slice A2 l2.length c2), (69, .int .i64 r1.1), (68, (.slice Z1 m1.length cz1))]) (l := []) (by kernel_rfl) trivial ?_
            rcases hx4 : l2[(z1).toNat]? with _ | e3
            · rw [hx4] at h; cases h
            rw [hx4] at h
            simp only [] at h
            refine ge_index (d := 72) (ty := 0) (t := 26) (el := 3) (sz := 1) (m := l2.length) (c := c2) (x := (.tmp 70)) (y := (.tmp 71)) (A := A2) (k' := .i64) (j := z1) (jn := ((z1).toNat)) (b0 := blkOf A2) (o0 := offOf A2) (by kernel_rfl) (by kernel_rfl) (by kernel_rfl) (by kernel_rfl) (by kernel_rfl) ((hS37.rd hR2).eqSome (pos_of_get hx4)) (Int.toNat_of_nonneg hc5).symm (lt_of_get hx4) ?_
            refine ge_batch [5, 6] (ans := [.val (.int .i64 e3)]) (vs := [(74, .int .i64 (IntKind.i64.wrap (r1.1 + e3))), (73, .int .i64 e3)]) (l := [.loaded ⟨blkOf A2, offOf A2 + ((z1).toNat) * 1, none⟩ (.int .i64 e3)]) (by kernel_rfl) ⟨RdL.cell (j := 0) (hS37.rd hR2) hx4 rfl, trivial⟩ ?_
            refine ge_new (d := some 75) (o := .cells #[.int .i64 (IntKind.i64.wrap (r1.1 + e3))] 3) (v := fun b => .slice (some ⟨b, 0, none⟩) 1 1) hS37 (fun b => by kernel_rfl) fun b2 w13 hx5 hS38 => ?_
            have hS39 := hS38.bring 2 rfl
            by_cases hc10 : m1.length < 17592186044416
            · rw [if_pos hc10] at h
              refine ge_append (α := Int) (m := 0) (d := 76) (t := 26) (el := 3) (bytes := 8) (c1 := 1) (b1 := b2) (x := (.tmp 68)) (y := (.tmp 75)) (ty := 26) (v := (.slice Z1 m1.length cz1)) (z := .int .i64 0) (l := m1) (u := (IntKind.i64.wrap (r1.1 + e3))) (by kernel_rfl) (by kernel_rfl) (by kernel_rfl) (by kernel_rfl) (by kernel_rfl) rfl hS39 rfl (by omega) fun v3 w14 hS40 => ?_
              refine ge_batch [9] (ans := []) (vs := [(8, v3)]) (l := []) (by kernel_rfl) trivial ?_
              refine ge_nil fun a hF => hK12 _ _ ?_ a hF
              refine we_region [(0, 0), (1, 0)] rfl ?_
              refine ge_batch [0, 1] (ans := []) (vs := [(31, .int .i64 (IntKind.i64.wrap (z1 + 1))), (77, .int .i64 (IntKind.i64.wrap (z1 + 1)))]) (l := []) (by kernel_rfl) trivial ?_
              have hS41 := hS40.bring 1 rfl
              obtain rfl := Option.some.inj h
              exact ge_nil fun a hF => hQ _ _ _ (Outs.again ⟨v3, hS41, hF.weaken ⟨by kernel_rfl, by kernel_rfl, by kernel_rfl, by kernel_rfl, by kernel_rfl, by kernel_rfl, by kernel_rfl, by kernel_rfl, trivial⟩⟩)
            · rw [if_neg hc10] at h
              cases h
          · rw [if_neg hc9] at h
            refine we_known (t := 64) (b := (r1.2 != 0)) (v := true) (by kernel_rfl) (bne_iff_ne.2 hc9) ?_
            refine we_true (by kernel_rfl) ?_
            refine we_seq fun K20 hK20 => ?_
            refine we_region [(0, 0), (1, 0), (2, 1), (3, 0), (4, 2)] rfl ?_
            refine ge_batch [0, 1] (ans := []) (vs := [(66, .int .i64 z1), (65, .int .i64 r1.2)]) (l := []) (by kernel_rfl) trivial ?_
            refine ge_call (d := some 67) (f := 34) (args := #[.int .i64 r1.2, .int .i64 z1]) (by kernel_rfl) (pr_F_ok r1.2 z1 _ _ rfl) ?_
            rintro _ w15 ⟨rfl, hS42⟩
            refine ⟨_, rfl, hS42.below, ?_⟩
            have hS43 := hS37.call hS42
            refine ge_batch [3] (ans := []) (vs := [(6, .slice none 0 0)]) (l := []) (by kernel_rfl) trivial ?_
            refine ge_set (b := b1) (j := 0) (cs := #[.int .i64 0, .int .i64 0]) (t := 31) (vs := [.int .i64 ((pr_F.f r1.2 z1).Code), .int .i64 ((pr_F.f r1.2 z1).At)]) hS43 (by kernel_rfl) rfl rfl fun w16 hS44 => ?_
            have hS45 := hS44.nc #[.int .i64 ((pr_F.f r1.2 z1).Code), .int .i64 ((pr_F.f r1.2 z1).At)] (by kernel_rfl)
            refine ge_nil fun a hF => hK20 _ _ ?_ a hF
            have hS46 := hS45.nil (α := Int) 3
            have hS47 := hS46.takeN 1
            obtain rfl := Option.some.inj h
            exact we_ret fun a hF => hQ _ _ _ (Outs.out nofun (Exits.on ⟨rfl, (post_ret (rs := [.tmp 6, .cell 7 31]) (ans := [.val (.int .i64 ((pr_F.f r1.2 z1).Code)), .val (.int .i64 ((pr_F.f r1.2 z1).At))]) (vs := [(.slice none 0 0), .agg #[.int .i64 ((pr_F.f r1.2 z1).Code), .int .i64 ((pr_F.f r1.2 z1).At)]]) (l := [.loaded ⟨b1, 0, none⟩ (.int .i64 ((pr_F.f r1.2 z1).Code)), .loaded ⟨b1, 1, none⟩ (.int .i64 ((pr_F.f r1.2 z1).At))]) rfl (by kernel_rfl) ⟨hS46.cell 1 rfl rfl, hS46.cell 1 rfl rfl, trivial⟩ ⟨(.slice none 0 0), rfl, hS47⟩) a hF⟩))
      · rw [hq5] at h
        simp only [] at h
        refine we_keep (e' := [(0, .slice A0 l0.length c0), (1, .int .i64 x1), (2, .slice A2 l2.length c2), (7, .pointer (some ⟨b1, 0, none⟩)), (8, (.slice Z1 m1.length cz1)), (9, .int .i64 z1), (10, .slice An1 e1.length cn1), (29, .slice A0 l0.length c0), (30, .int .i64 (l0.length : Int)), (31, .int .i64 z1), (32, .bool true), (33, .int .i64 z1), (34, .pointer (some ⟨blkOf A0, offOf A0 + (z1).toNat * 1, none⟩)), (35, .slice An1 e1.length cn1)]) ⟨by kernel_rfl, by kernel_rfl, by kernel_rfl, by kernel_rfl, by kernel_rfl, by kernel_rfl, by kernel_rfl, by kernel_rfl, by kernel_rfl, by kernel_rfl, by kernel_rfl, by kernel_rfl, by kernel_rfl, by kernel_rfl, trivial⟩ (pr_RoundOf_p2 K w0 l0 hd0 A0 c0 x1 l2 A2 c2 hR0 hL0 hN0 hR2 hL2 b1 m1 z1 hc4 hc5 e1 hx2 An1 cn1 hxn1 hRn1 hLn1 Z1 cz1 _ hq5 _ hS _ ?_)
        rintro _ a w1 ⟨_, rfl, hb⟩
        obtain rfl := Option.some.inj h
        exact hQ _ _ _ (Outs.out nofun (Exits.on ⟨rfl, hb⟩))
    · rw [if_neg hc5] at h
      cases h
  · rw [if_neg hc4] at h
    refine we_known (t := 32) (b := decide (z1 < (l0.length : Int))) (v := false) (by kernel_rfl) (decide_eq_false hc4) ?_
    refine we_false (by kernel_rfl) ?_
    have hS48 := hS.bring 1 rfl
    have hS49 := hS48.bring 1 rfl
    obtain rfl := Option.some.inj h
    exact we_exit fun a hF => hQ _ _ _ (Outs.out nofun (Exits.here ⟨v1, hS49, hF.weaken ⟨by kernel_rfl, by kernel_rfl, trivial⟩⟩))
theorem pr_RoundOf_ok (K : Nat) (l0 : List (List Int)) (hd0 : List Hdr) (A0 : Option Addr) (c0 : Nat) (x1 : Int) (l2 : List Int) (A2 : Option Addr) (c2 : Nat) (w0 : World) (hR0 : RdL w0 A0 hd0) (hL0 : l0.length ≤ c0) (hN0 : NestL w0 hd0 l0) (hR2 : RdL w0 A2 l2) (hL2 : l2.length ≤ c2) (r : (List Int) × SFault) (h : pr_RoundOf.f K l0 x1 l2 = some r) :
    Calls Try.prog 25 #[.slice A0 l0.length c0, .int .i64 x1, .slice A2 l2.length c2] w0 (pr_RoundOf.Post w0 r) := by
  have hS := St.start w0
  unfold pr_RoundOf.f at h
  refine calls_enter (n := 80) (args := [.slice A0 l0.length c0, .int .i64 x1, .slice A2 l2.length c2]) (fn := Try.f25) rfl rfl rfl rfl ?_
  show WE _ _ _ _ [(0, .slice A0 l0.length c0), (1, .int .i64 x1), (2, .slice A2 l2.length c2)] _
  refine we_seq fun K1 hK1 => ?_
  refine we_region [(0, 0), (1, 1)] rfl ?_
  refine ge_batch [0] (ans := []) (vs := [(6, .slice none 0 0)]) (l := []) (by kernel_rfl) trivial ?_
  refine ge_new (d := some 7) (o := .cells #[.int .i64 0, .int .i64 0] 31) (v := fun b => .pointer (some ⟨b, 0, none⟩)) hS (fun b => by kernel_rfl) fun b1 w1 hx1 hS1 => ?_
  refine ge_nil fun a hF => hK1 _ _ ?_ a hF
  refine we_seq fun K2 hK2 => ?_
  rcases hq4 : pr_RoundOf.p0 l0 l2 with _ | (_ | rr3)
  · rw [hq4] at h; cases h
  · rw [hq4] at h
    simp only [] at h
    refine we_keep (e' := [(0, .slice A0 l0.length c0), (1, .int .i64 x1), (2, .slice A2 l2.length c2), (6, .slice none 0 0), (7, .pointer (some ⟨b1, 0, none⟩))]) ⟨by kernel_rfl, by kernel_rfl, by kernel_rfl, by kernel_rfl, by kernel_rfl, trivial⟩ (pr_RoundOf_p0 K w0 l0 hd0 A0 c0 x1 l2 A2 c2 hR0 hL0 hN0 hR2 hL2 b1 _ hq4 _ hS1 _ ?_)
    rintro _ a w8 ⟨rfl, hS20, hF⟩
    replace hS20 : St w0 w8 [Own.blk b1 (.cells #[.int .i64 0, .int .i64 0] 31 (0, 0))] := hS20
    refine hK2 [(0, .slice A0 l0.length c0), (1, .int .i64 x1), (2, .slice A2 l2.length c2), (7, .pointer (some ⟨b1, 0, none⟩))] w8 ?_ a hF
    refine we_seq fun K7 hK7 => ?_
    refine we_region [(0, 0)] rfl ?_
    refine ge_batch [0] (ans := []) (vs := [(8, .slice none 0 0)]) (l := []) (by kernel_rfl) trivial ?_
    refine ge_nil fun a hF => hK7 _ _ ?_ a hF
    refine we_seq fun K8 hK8 => ?_
    refine we_seq fun K9 hK9 => ?_
    refine we_region [(0, 0), (1, 0), (2, 0)] rfl ?_
    refine ge_batch [0, 1, 2] (ans := []) (vs := [(31, .int .i64 0), (30, .int .i64 (l0.length : Int)), (29, .slice A0 l0.length c0)]) (l := []) (by kernel_rfl) trivial ?_
    refine ge_nil fun a hF => hK9 _ _ ?_ a hF
    refine we_block ?_
    have hS21 := hS20.nil (α := Int) 3
    have hS22 := hS21.bring 1 rfl
    rcases hq9 : iter (pr_RoundOf.r1 K l0 x1 l2) K (([] : List Int), 0) with _ | (m3 | rr2)
    · rw [hq9] at h; cases h
    · rw [hq9] at h
      simp only [] at h
      refine we_iter (A := pr_RoundOf.A1 K w0 l0 hd0 A0 c0 x1 l2 A2 c2 hR0 hL0 hN0 hR2 hL2 b1) (B := pr_RoundOf.B1 K w0 l0 hd0 A0 c0 x1 l2 A2 c2 hR0 hL0 hN0 hR2 hL2 b1) hq9 (fun a hF => ⟨(.slice none 0 0), hS22, hF.weaken ⟨by kernel_rfl, by kernel_rfl, by kernel_rfl, by kernel_rfl, by kernel_rfl, by kernel_rfl, by kernel_rfl, by kernel_rfl, trivial⟩⟩) (fun s o hf a w hA Q hQ => pr_RoundOf_r1 K w0 l0 hd0 A0 c0 x1 l2 A2 c2 hR0 hL0 hN0 hR2 hL2 b1 s o hf a w hA Q hQ) ?_
      rintro _ a w17 _ ⟨rfl, v4, hS50, hF⟩
      replace hS50 : St w0 w17 [Own.blk b1 (.cells #[.int .i64 0, .int .i64 0] 31 (0, 0)), Own.of v4 3 m3] := hS50
      refine hK8 [(7, .pointer (some ⟨b1, 0, none⟩)), (8, v4)] w17 ?_ a hF
      refine we_seq fun K21 hK21 => ?_
      refine we_region [(0, 0), (1, 0), (2, 0), (3, 2)] rfl ?_
      refine ge_batch [0, 1, 2] (ans := []) (vs := [(6, v4), (79, .agg #[.int .i64 0, .int .i64 0]), (78, v4)]) (l := []) (by kernel_rfl) trivial ?_
      refine ge_set (b := b1) (j := 0) (cs := #[.int .i64 0, .int .i64 0]) (t := 31) (vs := [.int .i64 0, .int .i64 0]) hS50 (by kernel_rfl) rfl rfl fun w18 hS51 => ?_
      have hS52 := hS51.nc #[.int .i64 0, .int .i64 0] (by kernel_rfl)
      refine ge_nil fun a hF => hK21 _ _ ?_ a hF
      have hS53 := hS52.bring 1 rfl
      have hS54 := hS53.takeN 1
      obtain rfl := Option.some.inj h
      exact we_ret (post_ret (rs := [.tmp 6, .cell 7 31]) (ans := [.val (.int .i64 0), .val (.int .i64 0)]) (vs := [v4, .agg #[.int .i64 0, .int .i64 0]]) (l := [.loaded ⟨b1, 0, none⟩ (.int .i64 0), .loaded ⟨b1, 1, none⟩ (.int .i64 0)]) rfl (by kernel_rfl) ⟨hS52.cell 0 rfl rfl, hS52.cell 0 rfl rfl, trivial⟩ ⟨v4, rfl, hS54⟩)
    · rw [hq9] at h
      simp only [] at h
      refine we_iter (A := pr_RoundOf.A1 K w0 l0 hd0 A0 c0 x1 l2 A2 c2 hR0 hL0 hN0 hR2 hL2 b1) (B := pr_RoundOf.B1 K w0 l0 hd0 A0 c0 x1 l2 A2 c2 hR0 hL0 hN0 hR2 hL2 b1) hq9 (fun a hF => ⟨(.slice none 0 0), hS22, hF.weaken ⟨by kernel_rfl, by kernel_rfl, by kernel_rfl, by kernel_rfl, by kernel_rfl, by kernel_rfl, by kernel_rfl, by kernel_rfl, trivial⟩⟩) (fun s o hf a w hA Q hQ => pr_RoundOf_r1 K w0 l0 hd0 A0 c0 x1 l2 A2 c2 hR0 hL0 hN0 hR2 hL2 b1 s o hf a w hA Q hQ) ?_
      rintro _ a w1 _ ⟨rfl, hb⟩
      obtain rfl := Option.some.inj h
      exact hb
  · rw [hq4] at h
    simp only [] at h
    refine we_keep (e' := [(0, .slice A0 l0.length c0), (1, .int .i64 x1), (2, .slice A2 l2.length c2), (6, .slice none 0 0), (7, .pointer (some ⟨b1, 0, none⟩))]) ⟨by kernel_rfl, by kernel_rfl, by kernel_rfl, by kernel_rfl, by kernel_rfl, trivial⟩ (pr_RoundOf_p0 K w0 l0 hd0 A0 c0 x1 l2 A2 c2 hR0 hL0 hN0 hR2 hL2 b1 _ hq4 _ hS1 _ ?_)
    rintro _ a w1 ⟨_, rfl, hb⟩
    obtain rfl := Option.some.inj h
    exact hb

/-! punctual/punctualsame.Same[int] -/
abbrev ps_Same_int.Post (w0 : World) (r : Bool) (e : Ending) (w : World) : Prop := e = .returned (.bool r) ∧ St w0 w []
def ps_Same_int.r0 (l0 : List Int) (l1 : List Int) : Nat → Option (Nat ⊕ (Unit ⊕ Bool))
  | i1 =>
    if (i1 : Int) < (l0.length : Int) then
      match l0[i1]? with
      | none => none
      | some e1 =>
        match l1[i1]? with
        | none => none
        | some e2 =>
          if e1 = e2 then
            some (.inl (i1 + 1))
          else
            some (.inr (.inr false))
    else
      some (.inr (.inl ()))
def ps_Same_int.f (K : Nat) (l0 : List Int) (l1 : List Int) : Option Bool :=
  if (l0.length : Int) = (l1.length : Int) then
    match iter (ps_Same_int.r0 l0 l1) K 0 with
    | none => none
    | some (.inl _) =>
      some true
    | some (.inr rr1) =>
      some rr1
  else
    some false
abbrev ps_Same_int.A0 (K : Nat) (w0 : World) (l0 : List Int) (A0 : Option Addr) (c0 : Nat) (l1 : List Int) (A1 : Option Addr) (c1 : Nat) (hR0 : RdL w0 A0 l0) (hL0 : l0.length ≤ c0) (hR1 : RdL w0 A1 l1) (hL1 : l1.length ≤ c1) (hc1 : (l0.length : Int) = (l1.length : Int)) : Nat → Act → World → Prop := fun (s : Nat) a w => St w0 w [] ∧ Frm 26 a [(0, .slice A0 l0.length c0), (1, .slice A1 l1.length c1), (12, .int .i64 (l0.length : Int)), (13, .int .i64 (s : Int))]
abbrev ps_Same_int.B0 (K : Nat) (w0 : World) (l0 : List Int) (A0 : Option Addr) (c0 : Nat) (l1 : List Int) (A1 : Option Addr) (c1 : Nat) (hR0 : RdL w0 A0 l0) (hL0 : l0.length ≤ c0) (hR1 : RdL w0 A1 l1) (hL1 : l1.length ≤ c1) (hc1 : (l0.length : Int) = (l1.length : Int)) : (Unit ⊕ Bool) → Exit → Act → World → Prop := Exits 0 (fun (s : Unit) a w => St w0 w [] ∧ Frm 26 a []) (Rets Try.prog Try.f13 (ps_Same_int.Post w0))
theorem ps_Same_int_r0 (K : Nat) (w0 : World) (l0 : List Int) (A0 : Option Addr) (c0 : Nat) (l1 : List Int) (A1 : Option Addr) (c1 : Nat) (hR0 : RdL w0 A0 l0) (hL0 : l0.length ≤ c0) (hR1 : RdL w0 A1 l1) (hL1 : l1.length ≤ c1) (hc1 : (l0.length : Int) = (l1.length : Int)) (s : Nat) (o : Nat ⊕ (Unit ⊕ Bool)) (h : ps_Same_int.r0 l0 l1 s = some o) (a : Act) (w : World) (hA : ps_Same_int.A0 K w0 l0 A0 c0 l1 A1 c1 hR0 hL0 hR1 hL1 hc1 s a w) (Q : Exit → Act → World → Prop) (hQ : ∀ x a w, Outs (ps_Same_int.A0 K w0 l0 A0 c0 l1 A1 c1 hR0 hL0 hR1 hL1 hc1) (ps_Same_int.B0 K w0 l0 A0 c0 l1 A1 c1 hR0 hL0 hR1 hL1 hc1) o x a w → Q x a w) : (subF Try.f13 [1, 1, 0, 1, 0, 0]).wp Try.prog Q a w := by
  obtain ⟨i1, hs⟩ : ∃ z, z = s := ⟨s, rfl⟩
  subst hs
  obtain ⟨hS, hF⟩ := hA
  replace hS : St w0 w [] := hS
  simp only [ps_Same_int.r0] at h
  refine (?_ : WE Try.prog 26 (subF Try.f13 [1, 1, 0, 1, 0, 0]) Q [(0, .slice A0 l0.length c0), (1, .slice A1 l1.length c1), (12, .int .i64 (l0.length : Int)), (13, .int .i64 (i1 : Int))] w) a hF
  clear hF a
  refine we_seq fun K6 hK6 => ?_
  refine we_region [(0, 0)] rfl ?_
  refine ge_batch [0] (ans := []) (vs := [(14, .bool (decide ((i1 : Int) < (l0.length : Int))))]) (l := []) (by kernel_rfl) trivial ?_
  refine ge_nil fun a hF => hK6 _ _ ?_ a hF
  refine we_seq fun K7 hK7 => ?_
  by_cases hc2 : (i1 : Int) < (l0.length : Int)
  · rw [if_pos hc2] at h
    refine we_known (t := 14) (b := decide ((i1 : Int) < (l0.length : Int))) (v := true) (by kernel_rfl) (decide_eq_true hc2) ?_
    refine we_true (by kernel_rfl) ?_
    refine we_skip fun a hF => hK7 _ _ ?_ a hF
    refine we_seq fun K8 hK8 => ?_
    refine we_block ?_
    refine we_seq fun K9 hK9 => ?_
    refine we_region [(0, 0), (1, 0)] rfl ?_
    refine ge_batch [0, 1] (ans := []) (vs := [(5, .int .i64 (i1 : Int)), (15, .int .i64 (i1 : Int))]) (l := []) (by kernel_rfl) trivial ?_
    refine ge_nil fun a hF => hK9 _ _ ?_ a hF
    refine we_seq fun K10 hK10 => ?_
    refine we_draws (by kernel_rfl) [(0, 0), (1, 0), (2, 0), (3, 0), (4, 0), (5, 0), (6, 0), (7, 0), (8, 0)] (by kernel_rfl) ?_
    have hS1 := hS.drew
    refine ge_batch [0, 1] (ans := []) (vs := [(17, .int .i64 (i1 : Int)), (16, .slice A0 l0.length c0)]) (l := []) (by kernel_rfl) trivial ?_
    rcases hx1 : l0[i1]? with _ | e1
    · rw [hx1] at h; cases h
    rw [hx1] at h
    simp only [] at h
    refine ge_index (d := 18) (ty := 0) (t := 26) (el := 3) (sz := 1) (m := l0.length) (c := c0) (x := (.tmp 16)) (y := (.tmp 17)) (A := A0) (k' := .i64) (j := (i1 : Int)) (jn := i1) (b0 := blkOf A0) (o0 := offOf A0) (by kernel_rfl) (by kernel_rfl) (by kernel_rfl) (by kernel_rfl) (by kernel_rfl) ((hS1.rd hR0).eqSome (pos_of_get hx1)) rfl (lt_of_get hx1) ?_
    refine ge_batch [3, 4, 5] (ans := [.val (.int .i64 e1)]) (vs := [(21, .int .i64 (i1 : Int)), (20, .slice A1 l1.length c1), (19, .int .i64 e1)]) (l := [.loaded ⟨blkOf A0, offOf A0 + i1 * 1, none⟩ (.int .i64 e1)]) (by kernel_rfl) ⟨RdL.cell (j := 0) (hS1.rd hR0) hx1 rfl, trivial⟩ ?_
    rcases hx2 : l1[i1]? with _ | e2
    · rw [hx2] at h; cases h
    rw [hx2] at h
    simp only [] at h
    refine ge_index (d := 22) (ty := 0) (t := 26) (el := 3) (sz := 1) (m := l1.length) (c := c1) (x := (.tmp 20)) (y := (.tmp 21)) (A := A1) (k' := .i64) (j := (i1 : Int)) (jn := i1) (b0 := blkOf A1) (o0 := offOf A1) (by kernel_rfl) (by kernel_rfl) (by kernel_rfl) (by kernel_rfl) (by kernel_rfl) ((hS1.rd hR1).eqSome (pos_of_get hx2)) rfl (lt_of_get hx2) ?_
    refine ge_batch [7, 8] (ans := [.val (.int .i64 e2)]) (vs := [(24, .bool (e1 != e2)), (23, .int .i64 e2)]) (l := [.loaded ⟨blkOf A1, offOf A1 + i1 * 1, none⟩ (.int .i64 e2)]) (by kernel_rfl) ⟨RdL.cell (j := 0) (hS1.rd hR1) hx2 rfl, trivial⟩ ?_
    refine ge_nil fun a hF => hK10 _ _ ?_ a hF
    by_cases hc3 : e1 = e2
    · rw [if_pos hc3] at h
      refine we_known (t := 24) (b := (e1 != e2)) (v := false) (by kernel_rfl) (bne_eq_false_iff_eq.2 hc3) ?_
      refine we_false (by kernel_rfl) ?_
      refine we_skip fun a hF => hK8 _ _ ?_ a hF
      refine we_region [(0, 0), (1, 0)] rfl ?_
      refine ge_addn (d := 25) (ty := 3) (x := (.tmp 13)) (y := (.const (.int .i64 1))) (t := 3) (t2 := 3) (k := .i64) (m := i1) (by kernel_rfl) (by kernel_rfl) (by kernel_rfl) (by have h0 := hR0.small; omega) ?_
      refine ge_batch [1] (ans := []) (vs := [(13, .int .i64 ((i1 + 1 : Nat) : Int))]) (l := []) (by kernel_rfl) trivial ?_
      obtain rfl := Option.some.inj h
      exact ge_nil fun a hF => hQ _ _ _ (Outs.again ⟨hS1, hF.weaken ⟨by kernel_rfl, by kernel_rfl, by kernel_rfl, by kernel_rfl, trivial⟩⟩)
    · rw [if_neg hc3] at h
      refine we_known (t := 24) (b := (e1 != e2)) (v := true) (by kernel_rfl) (bne_iff_ne.2 hc3) ?_
      refine we_true (by kernel_rfl) ?_
      refine we_seq fun K11 hK11 => ?_
      refine we_region [(0, 0)] rfl ?_
      refine ge_batch [0] (ans := []) (vs := [(4, .bool false)]) (l := []) (by kernel_rfl) trivial ?_
      refine ge_nil fun a hF => hK11 _ _ ?_ a hF
      obtain rfl := Option.some.inj h
      exact we_ret fun a hF => hQ _ _ _ (Outs.out nofun (Exits.on ⟨rfl, (post_ret (rs := [.tmp 4]) (ans := []) (vs := [.bool false]) (l := []) rfl (by kernel_rfl) trivial ⟨rfl, hS1⟩) a hF⟩))
  · rw [if_neg hc2] at h
    refine we_known (t := 14) (b := decide ((i1 : Int) < (l0.length : Int))) (v := false) (by kernel_rfl) (decide_eq_false hc2) ?_
    refine we_false (by kernel_rfl) ?_
    obtain rfl := Option.some.inj h
    exact we_exit fun a hF => hQ _ _ _ (Outs.out nofun (Exits.here ⟨hS, hF.weaken trivial⟩))
theorem ps_Same_int_ok (K : Nat) (l0 : List Int) (A0 : Option Addr) (c0 : Nat) (l1 : List Int) (A1 : Option Addr) (c1 : Nat) (w0 : World) (hR0 : RdL w0 A0 l0) (hL0 : l0.length ≤ c0) (hR1 : RdL w0 A1 l1) (hL1 : l1.length ≤ c1) (r : Bool) (h : ps_Same_int.f K l0 l1 = some r) :
    Calls Try.prog 13 #[.slice A0 l0.length c0, .slice A1 l1.length c1] w0 (ps_Same_int.Post w0 r) := by
  have hS := St.start w0
  unfold ps_Same_int.f at h
  refine calls_enter (n := 26) (args := [.slice A0 l0.length c0, .slice A1 l1.length c1]) (fn := Try.f13) rfl rfl rfl rfl ?_
  show WE _ _ _ _ [(0, .slice A0 l0.length c0), (1, .slice A1 l1.length c1)] _
  refine we_seq fun K1 hK1 => ?_
  refine we_region [(0, 0)] rfl ?_
  refine ge_batch [0] (ans := []) (vs := [(4, .bool false)]) (l := []) (by kernel_rfl) trivial ?_
  refine ge_nil fun a hF => hK1 _ _ ?_ a hF
  refine we_seq fun K2 hK2 => ?_
  refine we_seq fun K3 hK3 => ?_
  refine we_region [(0, 0), (1, 0), (2, 0), (3, 0), (4, 0)] rfl ?_
  refine ge_batch [0, 1, 2, 3, 4] (ans := []) (vs := [(10, .bool ((l0.length : Int) != (l1.length : Int))), (9, .int .i64 (l1.length : Int)), (8, .slice A1 l1.length c1), (7, .int .i64 (l0.length : Int)), (6, .slice A0 l0.length c0)]) (l := []) (by kernel_rfl) trivial ?_
  refine ge_nil fun a hF => hK3 _ _ ?_ a hF
  by_cases hc1 : (l0.length : Int) = (l1.length : Int)
  · rw [if_pos hc1] at h
    refine we_known (t := 10) (b := ((l0.length : Int) != (l1.length : Int))) (v := false) (by kernel_rfl) (bne_eq_false_iff_eq.2 hc1) ?_
    refine we_false (by kernel_rfl) ?_
    refine we_skip fun a hF => hK2 _ _ ?_ a hF
    refine we_seq fun K4 hK4 => ?_
    refine we_seq fun K5 hK5 => ?_
    refine we_region [(0, 0), (1, 0), (2, 0)] rfl ?_
    refine ge_batch [0, 1, 2] (ans := []) (vs := [(13, .int .i64 0), (12, .int .i64 (l0.length : Int)), (11, .slice A0 l0.length c0)]) (l := []) (by kernel_rfl) trivial ?_
    refine ge_nil fun a hF => hK5 _ _ ?_ a hF
    refine we_block ?_
    rcases hq1 : iter (ps_Same_int.r0 l0 l1) K 0 with _ | (_ | rr1)
    · rw [hq1] at h; cases h
    · rw [hq1] at h
      simp only [] at h
      refine we_iter (A := ps_Same_int.A0 K w0 l0 A0 c0 l1 A1 c1 hR0 hL0 hR1 hL1 hc1) (B := ps_Same_int.B0 K w0 l0 A0 c0 l1 A1 c1 hR0 hL0 hR1 hL1 hc1) hq1 (fun a hF => ⟨hS, hF.weaken ⟨by kernel_rfl, by kernel_rfl, by kernel_rfl, by kernel_rfl, trivial⟩⟩) (fun s o hf a w hA Q hQ => ps_Same_int_r0 K w0 l0 A0 c0 l1 A1 c1 hR0 hL0 hR1 hL1 hc1 s o hf a w hA Q hQ) ?_
      rintro _ a w1 _ ⟨rfl, hS2, hF⟩
      replace hS2 : St w0 w1 [] := hS2
      refine hK4 [] w1 ?_ a hF
      refine we_seq fun K12 hK12 => ?_
      refine we_region [(0, 0)] rfl ?_
      refine ge_batch [0] (ans := []) (vs := [(4, .bool true)]) (l := []) (by kernel_rfl) trivial ?_
      refine ge_nil fun a hF => hK12 _ _ ?_ a hF
      obtain rfl := Option.some.inj h
      exact we_ret (post_ret (rs := [.tmp 4]) (ans := []) (vs := [.bool true]) (l := []) rfl (by kernel_rfl) trivial ⟨rfl, hS2⟩)
    · rw [hq1] at h
      simp only [] at h
      refine we_iter (A := ps_Same_int.A0 K w0 l0 A0 c0 l1 A1 c1 hR0 hL0 hR1 hL1 hc1) (B := ps_Same_int.B0 K w0 l0 A0 c0 l1 A1 c1 hR0 hL0 hR1 hL1 hc1) hq1 (fun a hF => ⟨hS, hF.weaken ⟨by kernel_rfl, by kernel_rfl, by kernel_rfl, by kernel_rfl, trivial⟩⟩) (fun s o hf a w hA Q hQ => ps_Same_int_r0 K w0 l0 A0 c0 l1 A1 c1 hR0 hL0 hR1 hL1 hc1 s o hf a w hA Q hQ) ?_
      rintro _ a w1 _ ⟨rfl, hb⟩
      obtain rfl := Option.some.inj h
      exact hb
  · rw [if_neg hc1] at h
    refine we_known (t := 10) (b := ((l0.length : Int) != (l1.length : Int))) (v := true) (by kernel_rfl) (bne_iff_ne.2 hc1) ?_
    refine we_true (by kernel_rfl) ?_
    refine we_seq fun K13 hK13 => ?_
    refine we_region [(0, 0)] rfl ?_
    refine ge_batch [0] (ans := []) (vs := [(4, .bool false)]) (l := []) (by kernel_rfl) trivial ?_
    refine ge_nil fun a hF => hK13 _ _ ?_ a hF
    obtain rfl := Option.some.inj h
    exact we_ret (post_ret (rs := [.tmp 4]) (ans := []) (vs := [.bool false]) (l := []) rfl (by kernel_rfl) trivial ⟨rfl, hS⟩)

/-! punctual/punctualsame.Tables -/
abbrev ps_Tables.Post (w0 : World) (r : Bool) (e : Ending) (w : World) : Prop := e = .returned (.bool r) ∧ St w0 w []
def ps_Tables.r0 (K : Nat) (l0 : List (List Int)) (l1 : List (List Int)) : Int → Option (Int ⊕ (Unit ⊕ Bool))
  | z1 =>
    if z1 < (l0.length : Int) then
      if 0 ≤ z1 then
        match l0[(z1).toNat]? with
        | none => none
        | some e1 =>
          match l1[(z1).toNat]? with
          | none => none
          | some e2 =>
            match ps_Same_int.f K e1 e2 with
            | none => none
            | some r1 =>
              if r1 = true then
                some (.inl (IntKind.i64.wrap (z1 + 1)))
              else
                some (.inr (.inr false))
      else
        none
    else
      some (.inr (.inl ()))
def ps_Tables.f (K : Nat) (l0 : List (List Int)) (l1 : List (List Int)) : Option Bool :=
  if (l0.length : Int) = (l1.length : Int) then
    match iter (ps_Tables.r0 K l0 l1) K 0 with
    | none => none
    | some (.inl _) =>
      some true
    | some (.inr rr1) =>
      some rr1
  else
    some false
abbrev ps_Tables.A0 (K : Nat) (w0 : World) (l0 : List (List Int)) (hd0 : List Hdr) (A0 : Option Addr) (c0 : Nat) (l1 : List (List Int)) (hd1 : List Hdr) (A1 : Option Addr) (c1 : Nat) (hR0 : RdL w0 A0 hd0) (hL0 : l0.length ≤ c0) (hN0 : NestL w0 hd0 l0) (hR1 : RdL w0 A1 hd1) (hL1 : l1.length ≤ c1) (hN1 : NestL w0 hd1 l1) (hc1 : (l0.length : Int) = (l1.length : Int)) : Int → Act → World → Prop := fun (s : Int) a w => St w0 w [] ∧ Frm 27 a [(0, .slice A0 l0.length c0), (1, .slice A1 l1.length c1), (12, .int .i64 (l0.length : Int)), (13, .int .i64 s)]
abbrev ps_Tables.B0 (K : Nat) (w0 : World) (l0 : List (List Int)) (hd0 : List Hdr) (A0 : Option Addr) (c0 : Nat) (l1 : List (List Int)) (hd1 : List Hdr) (A1 : Option Addr) (c1 : Nat) (hR0 : RdL w0 A0 hd0) (hL0 : l0.length ≤ c0) (hN0 : NestL w0 hd0 l0) (hR1 : RdL w0 A1 hd1) (hL1 : l1.length ≤ c1) (hN1 : NestL w0 hd1 l1) (hc1 : (l0.length : Int) = (l1.length : Int)) : (Unit ⊕ Bool) → Exit → Act → World → Prop := Exits 0 (fun (s : Unit) a w => St w0 w [] ∧ Frm 27 a []) (Rets Try.prog Try.f26 (ps_Tables.Post w0))
theorem ps_Tables_r0 (K : Nat) (w0 : World) (l0 : List (List Int)) (hd0 : List Hdr) (A0 : Option Addr) (c0 : Nat) (l1 : List (List Int)) (hd1 : List Hdr) (A1 : Option Addr) (c1 : Nat) (hR0 : RdL w0 A0 hd0) (hL0 : l0.length ≤ c0) (hN0 : NestL w0 hd0 l0) (hR1 : RdL w0 A1 hd1) (hL1 : l1.length ≤ c1) (hN1 : NestL w0 hd1 l1) (hc1 : (l0.length : Int) = (l1.length : Int)) (s : Int) (o : Int ⊕ (Unit ⊕ Bool)) (h : ps_Tables.r0 K l0 l1 s = some o) (a : Act) (w : World) (hA : ps_Tables.A0 K w0 l0 hd0 A0 c0 l1 hd1 A1 c1 hR0 hL0 hN0 hR1 hL1 hN1 hc1 s a w) (Q : Exit → Act → World → Prop) (hQ : ∀ x a w, Outs (ps_Tables.A0 K w0 l0 hd0 A0 c0 l1 hd1 A1 c1 hR0 hL0 hN0 hR1 hL1 hN1 hc1) (ps_Tables.B0 K w0 l0 hd0 A0 c0 l1 hd1 A1 c1 hR0 hL0 hN0 hR1 hL1 hN1 hc1) o x a w → Q x a w) : (subF Try.f26 [1, 1, 0, 1, 0, 0]).wp Try.prog Q a w := by
  obtain ⟨z1, hs⟩ : ∃ z, z = s := ⟨s, rfl⟩
  subst hs
  obtain ⟨hS, hF⟩ := hA
  replace hS : St w0 w [] := hS
  simp only [ps_Tables.r0] at h
  refine (?_ : WE Try.prog 27 (subF Try.f26 [1, 1, 0, 1, 0, 0]) Q [(0, .slice A0 l0.length c0), (1, .slice A1 l1.length c1), (12, .int .i64 (l0.length : Int)), (13, .int .i64 z1)] w) a hF
  clear hF a
  refine we_seq fun K6 hK6 => ?_
  refine we_region [(0, 0)] rfl ?_
  refine ge_batch [0] (ans := []) (vs := [(14, .bool (decide (z1 < (l0.length : Int))))]) (l := []) (by kernel_rfl) trivial ?_
  refine ge_nil fun a hF => hK6 _ _ ?_ a hF
  refine we_seq fun K7 hK7 => ?_
  by_cases hc2 : z1 < (l0.length : Int)
  · rw [if_pos hc2] at h
    refine we_known (t := 14) (b := decide (z1 < (l0.length : Int))) (v := true) (by kernel_rfl) (decide_eq_true hc2) ?_
    refine we_true (by kernel_rfl) ?_
    refine we_skip fun a hF => hK7 _ _ ?_ a hF
    refine we_seq fun K8 hK8 => ?_
    refine we_block ?_
    refine we_seq fun K9 hK9 => ?_
    refine we_region [(0, 0), (1, 0)] rfl ?_
    refine ge_batch [0, 1] (ans := []) (vs := [(5, .int .i64 z1), (15, .int .i64 z1)]) (l := []) (by kernel_rfl) trivial ?_
    refine ge_nil fun a hF => hK9 _ _ ?_ a hF
    refine we_seq fun K10 hK10 => ?_
    refine we_draws (by kernel_rfl) [(0, 0), (1, 0), (2, 0), (3, 0), (4, 0), (5, 0), (6, 0), (7, 0), (8, 1), (9, 0)] (by kernel_rfl) ?_
    have hS1 := hS.drew
    refine ge_batch [0, 1] (ans := []) (vs := [(17, .int .i64 z1), (16, .slice A0 l0.length c0)]) (l := []) (by kernel_rfl) trivial ?_
    by_cases hc3 : 0 ≤ z1
    · rw [if_pos hc3] at h
      rcases hx1 : l0[(z1).toNat]? with _ | e1
      · rw [hx1] at h; cases h
      rw [hx1] at h
      simp only [] at h
      obtain ⟨An1, cn1, hxn1, hRn1, hLn1⟩ := hN0.get hx1
      refine ge_index (d := 18) (ty := 0) (t := 51) (el := 26) (sz := 1) (m := l0.length) (c := c0) (x := (.tmp 16)) (y := (.tmp 17)) (A := A0) (k' := .i64) (j := z1) (jn := ((z1).toNat)) (b0 := blkOf A0) (o0 := offOf A0) (by kernel_rfl) (by kernel_rfl) (by kernel_rfl) (by kernel_rfl) (by kernel_rfl) ((hS1.rd hR0).eqSome (pos_of_get hxn1)) (Int.toNat_of_nonneg hc3).symm (lt_of_get hx1) ?_
      refine ge_batch [3, 4, 5] (ans := [.val (.slice An1 e1.length cn1)]) (vs := [(21, .int .i64 z1), (20, .slice A1 l1.length c1), (19, .slice An1 e1.length cn1)]) (l := [.loaded ⟨blkOf A0, offOf A0 + ((z1).toNat) * 1, none⟩ (.slice An1 e1.length cn1)]) (by kernel_rfl) ⟨RdL.cell (j := 0) (hS1.rd hR0) hxn1 rfl, trivial⟩ ?_
      rcases hx2 : l1[(z1).toNat]? with _ | e2
      · rw [hx2] at h; cases h
      rw [hx2] at h
      simp only [] at h
      obtain ⟨An2, cn2, hxn2, hRn2, hLn2⟩ := hN1.get hx2
      refine ge_index (d := 22) (ty := 0) (t := 51) (el := 26) (sz := 1) (m := l1.length) (c := c1) (x := (.tmp 20)) (y := (.tmp 21)) (A := A1) (k' := .i64) (j := z1) (jn := ((z1).toNat)) (b0 := blkOf A1) (o0 := offOf A1) (by kernel_rfl) (by kernel_rfl) (by kernel_rfl) (by kernel_rfl) (by kernel_rfl) ((hS1.rd hR1).eqSome (pos_of_get hxn2)) (Int.toNat_of_nonneg hc3).symm (lt_of_get hx2) ?_
      rcases hq1 : ps_Same_int.f K e1 e2 with _ | r1
      · rw [hq1] at h; cases h
      rw [hq1] at h
      simp only [] at h
      refine ge_batch [7] (ans := [.val (.slice An2 e2.length cn2)]) (vs := [(23, .slice An2 e2.length cn2)]) (l := [.loaded ⟨blkOf A1, offOf A1 + ((z1).toNat) * 1, none⟩ (.slice An2 e2.length cn2)]) (by kernel_rfl) ⟨RdL.cell (j := 0) (hS1.rd hR1) hxn2 rfl, trivial⟩ ?_
      refine ge_call (d := some 24) (f := 13) (args := #[.slice An1 e1.length cn1, .slice An2 e2.length cn2]) (by kernel_rfl) (ps_Same_int_ok K e1 An1 cn1 e2 An2 cn2 _ (hS1.rd hRn1) hLn1 (hS1.rd hRn2) hLn2 _ hq1) ?_
      rintro _ w1 ⟨rfl, hS2⟩
      refine ⟨_, rfl, hS2.below, ?_⟩
      have hS3 := hS1.call hS2
      refine ge_batch [9] (ans := []) (vs := [(25, .bool (!r1))]) (l := []) (by kernel_rfl) trivial ?_
      refine ge_nil fun a hF => hK10 _ _ ?_ a hF
      by_cases hc4 : r1 = true
      · rw [if_pos hc4] at h
        refine we_known (t := 25) (b := !r1) (v := false) (by kernel_rfl) (congrArg (fun z => !z) hc4) ?_
        refine we_false (by kernel_rfl) ?_
        refine we_skip fun a hF => hK8 _ _ ?_ a hF
        refine we_region [(0, 0), (1, 0)] rfl ?_
        refine ge_batch [0, 1] (ans := []) (vs := [(13, .int .i64 (IntKind.i64.wrap (z1 + 1))), (26, .int .i64 (IntKind.i64.wrap (z1 + 1)))]) (l := []) (by kernel_rfl) trivial ?_
        obtain rfl := Option.some.inj h
        exact ge_nil fun a hF => hQ _ _ _ (Outs.again ⟨hS3, hF.weaken ⟨by kernel_rfl, by kernel_rfl, by kernel_rfl, by kernel_rfl, trivial⟩⟩)
      · rw [if_neg hc4] at h
        refine we_known (t := 25) (b := !r1) (v := true) (by kernel_rfl) (congrArg (fun z => !z) (Bool.eq_false_iff.2 hc4)) ?_
        refine we_true (by kernel_rfl) ?_
        refine we_seq fun K11 hK11 => ?_
        refine we_region [(0, 0)] rfl ?_
        refine ge_batch [0] (ans := []) (vs := [(4, .bool false)]) (l := []) (by kernel_rfl) trivial ?_
        refine ge_nil fun a hF => hK11 _ _ ?_ a hF
        obtain rfl := Option.some.inj h
        exact we_ret fun a hF => hQ _ _ _ (Outs.out nofun (Exits.on ⟨rfl, (post_ret (rs := [.tmp 4]) (ans := []) (vs := [.bool false]) (l := []) rfl (by kernel_rfl) trivial ⟨rfl, hS3⟩) a hF⟩))
    · rw [if_neg hc3] at h
      cases h
  · rw [if_neg hc2] at h
    refine we_known (t := 14) (b := decide (z1 < (l0.length : Int))) (v := false) (by kernel_rfl) (decide_eq_false hc2) ?_
    refine we_false (by kernel_rfl) ?_
    obtain rfl := Option.some.inj h
    exact we_exit fun a hF => hQ _ _ _ (Outs.out nofun (Exits.here ⟨hS, hF.weaken trivial⟩))
theorem ps_Tables_ok (K : Nat) (l0 : List (List Int)) (hd0 : List Hdr) (A0 : Option Addr) (c0 : Nat) (l1 : List (List Int)) (hd1 : List Hdr) (A1 : Option Addr) (c1 : Nat) (w0 : World) (hR0 : RdL w0 A0 hd0) (hL0 : l0.length ≤ c0) (hN0 : NestL w0 hd0 l0) (hR1 : RdL w0 A1 hd1) (hL1 : l1.length ≤ c1) (hN1 : NestL w0 hd1 l1) (r : Bool) (h : ps_Tables.f K l0 l1 = some r) :
    Calls Try.prog 26 #[.slice A0 l0.length c0, .slice A1 l1.length c1] w0 (ps_Tables.Post w0 r) := by
  have hS := St.start w0
  unfold ps_Tables.f at h
  refine calls_enter (n := 27) (args := [.slice A0 l0.length c0, .slice A1 l1.length c1]) (fn := Try.f26) rfl rfl rfl rfl ?_
  show WE _ _ _ _ [(0, .slice A0 l0.length c0), (1, .slice A1 l1.length c1)] _
  refine we_seq fun K1 hK1 => ?_
  refine we_region [(0, 0)] rfl ?_
  refine ge_batch [0] (ans := []) (vs := [(4, .bool false)]) (l := []) (by kernel_rfl) trivial ?_
  refine ge_nil fun a hF => hK1 _ _ ?_ a hF
  refine we_seq fun K2 hK2 => ?_
  refine we_seq fun K3 hK3 => ?_
  refine we_region [(0, 0), (1, 0), (2, 0), (3, 0), (4, 0)] rfl ?_
  refine ge_batch [0, 1, 2, 3, 4] (ans := []) (vs := [(10, .bool ((l0.length : Int) != (l1.length : Int))), (9, .int .i64 (l1.length : Int)), (8, .slice A1 l1.length c1), (7, .int .i64 (l0.length : Int)), (6, .slice A0 l0.length c0)]) (l := []) (by kernel_rfl) trivial ?_
  refine ge_nil fun a hF => hK3 _ _ ?_ a hF
  by_cases hc1 : (l0.length : Int) = (l1.length : Int)
  · rw [if_pos hc1] at h
    refine we_known (t := 10) (b := ((l0.length : Int) != (l1.length : Int))) (v := false) (by kernel_rfl) (bne_eq_false_iff_eq.2 hc1) ?_
    refine we_false (by kernel_rfl) ?_
    refine we_skip fun a hF => hK2 _ _ ?_ a hF
    refine we_seq fun K4 hK4 => ?_
    refine we_seq fun K5 hK5 => ?_
    refine we_region [(0, 0), (1, 0), (2, 0)] rfl ?_
    refine ge_batch [0, 1, 2] (ans := []) (vs := [(13, .int .i64 0), (12, .int .i64 (l0.length : Int)), (11, .slice A0 l0.length c0)]) (l := []) (by kernel_rfl) trivial ?_
    refine ge_nil fun a hF => hK5 _ _ ?_ a hF
    refine we_block ?_
    rcases hq2 : iter (ps_Tables.r0 K l0 l1) K 0 with _ | (_ | rr1)
    · rw [hq2] at h; cases h
    · rw [hq2] at h
      simp only [] at h
      refine we_iter (A := ps_Tables.A0 K w0 l0 hd0 A0 c0 l1 hd1 A1 c1 hR0 hL0 hN0 hR1 hL1 hN1 hc1) (B := ps_Tables.B0 K w0 l0 hd0 A0 c0 l1 hd1 A1 c1 hR0 hL0 hN0 hR1 hL1 hN1 hc1) hq2 (fun a hF => ⟨hS, hF.weaken ⟨by kernel_rfl, by kernel_rfl, by kernel_rfl, by kernel_rfl, trivial⟩⟩) (fun s o hf a w hA Q hQ => ps_Tables_r0 K w0 l0 hd0 A0 c0 l1 hd1 A1 c1 hR0 hL0 hN0 hR1 hL1 hN1 hc1 s o hf a w hA Q hQ) ?_
      rintro _ a w2 _ ⟨rfl, hS4, hF⟩
      replace hS4 : St w0 w2 [] := hS4
      refine hK4 [] w2 ?_ a hF
      refine we_seq fun K12 hK12 => ?_
      refine we_region [(0, 0)] rfl ?_
      refine ge_batch [0] (ans := []) (vs := [(4, .bool true)]) (l := []) (by kernel_rfl) trivial ?_
      refine ge_nil fun a hF => hK12 _ _ ?_ a hF
      obtain rfl := Option.some.inj h
      exact we_ret (post_ret (rs := [.tmp 4]) (ans := []) (vs := [.bool true]) (l := []) rfl (by kernel_rfl) trivial ⟨rfl, hS4⟩)
    · rw [hq2] at h
      simp only [] at h
      refine we_iter (A := ps_Tables.A0 K w0 l0 hd0 A0 c0 l1 hd1 A1 c1 hR0 hL0 hN0 hR1 hL1 hN1 hc1) (B := ps_Tables.B0 K w0 l0 hd0 A0 c0 l1 hd1 A1 c1 hR0 hL0 hN0 hR1 hL1 hN1 hc1) hq2 (fun a hF => ⟨hS, hF.weaken ⟨by kernel_rfl, by kernel_rfl, by kernel_rfl, by kernel_rfl, trivial⟩⟩) (fun s o hf a w hA Q hQ => ps_Tables_r0 K w0 l0 hd0 A0 c0 l1 hd1 A1 c1 hR0 hL0 hN0 hR1 hL1 hN1 hc1 s o hf a w hA Q hQ) ?_
      rintro _ a w1 _ ⟨rfl, hb⟩
      obtain rfl := Option.some.inj h
      exact hb
  · rw [if_neg hc1] at h
    refine we_known (t := 10) (b := ((l0.length : Int) != (l1.length : Int))) (v := true) (by kernel_rfl) (bne_iff_ne.2 hc1) ?_
    refine we_true (by kernel_rfl) ?_
    refine we_seq fun K13 hK13 => ?_
    refine we_region [(0, 0)] rfl ?_
    refine ge_batch [0] (ans := []) (vs := [(4, .bool false)]) (l := []) (by kernel_rfl) trivial ?_
    refine ge_nil fun a hF => hK13 _ _ ?_ a hF
    obtain rfl := Option.some.inj h
    exact we_ret (post_ret (rs := [.tmp 4]) (ans := []) (vs := [.bool false]) (l := []) rfl (by kernel_rfl) trivial ⟨rfl, hS⟩)

/-! punctual/punctualsame.Still[int] -/
abbrev ps_Still_int.Post (w0 : World) (r : Bool) (e : Ending) (w : World) : Prop := e = .returned (.bool r) ∧ St w0 w []
def ps_Still_int.r0 (f0 : List Int) (l1 : List Int) (x2 : Int) : Nat → Option (Nat ⊕ (Unit ⊕ Bool))
  | i1 =>
    if (i1 : Int) < (f0.length : Int) then
      match f0[i1]? with
      | none => none
      | some e1 =>
        if (i1 : Int) < (l1.length : Int) then
          match l1[i1]? with
          | none => none
          | some e2 =>
            if e1 = e2 then
              if (i1 : Int) ≥ (l1.length : Int) then
                if e1 = x2 then
                  some (.inl (i1 + 1))
                else
                  some (.inr (.inr false))
              else
                some (.inl (i1 + 1))
            else
              some (.inr (.inr false))
        else
          if (i1 : Int) ≥ (l1.length : Int) then
            if e1 = x2 then
              some (.inl (i1 + 1))
            else
              some (.inr (.inr false))
          else
            some (.inl (i1 + 1))
    else
      some (.inr (.inl ()))
def ps_Still_int.f (K : Nat) (f0 : List Int) (l1 : List Int) (x2 : Int) : Option Bool :=
  if (IntKind.i64.wrap ((l1.length : Int) + 3)) = (f0.length : Int) then
    match iter (ps_Still_int.r0 f0 l1 x2) K 0 with
    | none => none
    | some (.inl _) =>
      some true
    | some (.inr rr1) =>
      some rr1
  else
    none
abbrev ps_Still_int.A0 (K : Nat) (w0 : World) (f0 : List Int) (A0 : Option Addr) (n0 : Nat) (c0 : Nat) (l1 : List Int) (A1 : Option Addr) (c1 : Nat) (x2 : Int) (hR0 : RdL w0 A0 f0) (hc0 : f0.length ≤ c0) (hR1 : RdL w0 A1 l1) (hL1 : l1.length ≤ c1) (hc1 : (IntKind.i64.wrap ((l1.length : Int) + 3)) = (f0.length : Int)) : Nat → Act → World → Prop := fun (s : Nat) a w => St w0 w [] ∧ Frm 46 a [(1, .slice A1 l1.length c1), (2, .int .i64 x2), (15, .slice A0 f0.length c0), (16, .int .i64 (f0.length : Int)), (17, .int .i64 (s : Int))]
abbrev ps_Still_int.B0 (K : Nat) (w0 : World) (f0 : List Int) (A0 : Option Addr) (n0 : Nat) (c0 : Nat) (l1 : List Int) (A1 : Option Addr) (c1 : Nat) (x2 : Int) (hR0 : RdL w0 A0 f0) (hc0 : f0.length ≤ c0) (hR1 : RdL w0 A1 l1) (hL1 : l1.length ≤ c1) (hc1 : (IntKind.i64.wrap ((l1.length : Int) + 3)) = (f0.length : Int)) : (Unit ⊕ Bool) → Exit → Act → World → Prop := Exits 0 (fun (s : Unit) a w => St w0 w [] ∧ Frm 46 a []) (Rets Try.prog Try.f27 (ps_Still_int.Post w0))
theorem ps_Still_int_r0 (K : Nat) (w0 : World) (f0 : List Int) (A0 : Option Addr) (n0 : Nat) (c0 : Nat) (l1 : List Int) (A1 : Option Addr) (c1 : Nat) (x2 : Int) (hR0 : RdL w0 A0 f0) (hc0 : f0.length ≤ c0) (hR1 : RdL w0 A1 l1) (hL1 : l1.length ≤ c1) (hc1 : (IntKind.i64.wrap ((l1.length : Int) + 3)) = (f0.length : Int)) (s : Nat) (o : Nat ⊕ (Unit ⊕ Bool)) (h : ps_Still_int.r0 f0 l1 x2 s = some o) (a : Act) (w : World) (hA : ps_Still_int.A0 K w0 f0 A0 n0 c0 l1 A1 c1 x2 hR0 hc0 hR1 hL1 hc1 s a w) (Q : Exit → Act → World → Prop) (hQ : ∀ x a w, Outs (ps_Still_int.A0 K w0 f0 A0 n0 c0 l1 A1 c1 x2 hR0 hc0 hR1 hL1 hc1) (ps_Still_int.B0 K w0 f0 A0 n0 c0 l1 A1 c1 x2 hR0 hc0 hR1 hL1 hc1) o x a w → Q x a w) : (subF Try.f27 [1, 1, 0, 1, 0, 0]).wp Try.prog Q a w := by
  obtain ⟨i1, hs⟩ : ∃ z, z = s := ⟨s, rfl⟩
  subst hs
  obtain ⟨hS, hF⟩ := hA
  replace hS : St w0 w [] := hS
  simp only [ps_Still_int.r0] at h
  refine (?_ : WE Try.prog 46 (subF Try.f27 [1, 1, 0, 1, 0, 0]) Q [(1, .slice A1 l1.length c1), (2, .int .i64 x2), (15, .slice A0 f0.length c0), (16, .int .i64 (f0.length : Int)), (17, .int .i64 (i1 : Int))] w) a hF
  clear hF a
  refine we_seq fun K5 hK5 => ?_
  refine we_region [(0, 0)] rfl ?_
  refine ge_batch [0] (ans := []) (vs := [(18, .bool (decide ((i1 : Int) < (f0.length : Int))))]) (l := []) (by kernel_rfl) trivial ?_
  refine ge_nil fun a hF => hK5 _ _ ?_ a hF
  refine we_seq fun K6 hK6 => ?_
  by_cases hc2 : (i1 : Int) < (f0.length : Int)
  · rw [if_pos hc2] at h
    refine we_known (t := 18) (b := decide ((i1 : Int) < (f0.length : Int))) (v := true) (by kernel_rfl) (decide_eq_true hc2) ?_
    refine we_true (by kernel_rfl) ?_
    refine we_skip fun a hF => hK6 _ _ ?_ a hF
    refine we_seq fun K7 hK7 => ?_
    refine we_block ?_
    refine we_seq fun K8 hK8 => ?_
    refine we_region [(0, 0), (1, 0), (2, 0), (3, 0), (4, 0)] rfl ?_
    refine ge_batch [0] (ans := []) (vs := [(19, .int .i64 (i1 : Int))]) (l := []) (by kernel_rfl) trivial ?_
    rcases hx1 : f0[i1]? with _ | e1
    · rw [hx1] at h; cases h
    rw [hx1] at h
    simp only [] at h
    refine ge_index (d := 20) (ty := 0) (t := 26) (el := 3) (sz := 1) (m := f0.length) (c := c0) (x := (.tmp 15)) (y := (.tmp 17)) (A := A0) (k' := .i64) (j := (i1 : Int)) (jn := i1) (b0 := blkOf A0) (o0 := offOf A0) (by kernel_rfl) (by kernel_rfl) (by kernel_rfl) (by kernel_rfl) (by kernel_rfl) ((hS.rd hR0).eqSome (pos_of_get hx1)) rfl (lt_of_get hx1) ?_
    refine ge_batch [2, 3, 4] (ans := [.val (.int .i64 e1)]) (vs := [(9, .int .i64 e1), (8, .int .i64 (i1 : Int)), (21, .int .i64 e1)]) (l := [.loaded ⟨blkOf A0, offOf A0 + i1 * 1, none⟩ (.int .i64 e1)]) (by kernel_rfl) ⟨RdL.cell (j := 0) (hS.rd hR0) hx1 rfl, trivial⟩ ?_
    refine ge_nil fun a hF => hK8 _ _ ?_ a hF
    refine we_seq fun K9 hK9 => ?_
    refine we_region [(0, 0), (1, 0), (2, 0), (3, 0), (4, 0), (5, 0), (6, 0), (7, 0), (8, 0), (9, 0), (10, 0), (11, 0), (12, 0), (13, 0), (14, 0), (15, 0), (16, 0), (17, 0), (18, 0), (19, 0), (20, 0), (21, 0), (22, 0)] rfl ?_
    refine ge_batch [0, 1, 2, 3, 4] (ans := []) (vs := [(26, .bool (decide ((i1 : Int) < (l1.length : Int)))), (25, .bool (decide ((i1 : Int) < (l1.length : Int)))), (24, .int .i64 (l1.length : Int)), (23, .slice A1 l1.length c1), (22, .int .i64 (i1 : Int))]) (l := []) (by kernel_rfl) trivial ?_
    by_cases hc3 : (i1 : Int) < (l1.length : Int)
    · rw [if_pos hc3] at h
      refine ge_known (t := 26) (b := decide ((i1 : Int) < (l1.length : Int))) (c := true) (by kernel_rfl) (decide_eq_true hc3) ?_
      refine ge_batch [5, 6, 7] (ans := []) (vs := [(29, .int .i64 (i1 : Int)), (28, .slice A1 l1.length c1), (27, .int .i64 e1)]) (l := []) (by kernel_rfl) trivial ?_
      rcases hx2 : l1[i1]? with _ | e2
      · rw [hx2] at h; cases h
      rw [hx2] at h
      simp only [] at h
      refine ge_index (d := 30) (ty := 0) (t := 26) (el := 3) (sz := 1) (m := l1.length) (c := c1) (x := (.tmp 28)) (y := (.tmp 29)) (A := A1) (k' := .i64) (j := (i1 : Int)) (jn := i1) (b0 := blkOf A1) (o0 := offOf A1) (by kernel_rfl) (by kernel_rfl) (by kernel_rfl) (by kernel_rfl) (by kernel_rfl) ((hS.rd hR1).eqSome (pos_of_get hx2)) rfl (lt_of_get hx2) ?_
      refine ge_batch [9, 10, 11, 12] (ans := [.val (.int .i64 e2)]) (vs := [(34, .bool (e1 != e2)), (33, .bool (e1 != e2)), (32, .bool (e1 != e2)), (31, .int .i64 e2)]) (l := [.loaded ⟨blkOf A1, offOf A1 + i1 * 1, none⟩ (.int .i64 e2)]) (by kernel_rfl) ⟨RdL.cell (j := 0) (hS.rd hR1) hx2 rfl, trivial⟩ ?_
      by_cases hc4 : e1 = e2
      · rw [if_pos hc4] at h
        refine ge_known (t := 34) (b := (e1 != e2)) (c := false) (by kernel_rfl) (bne_eq_false_iff_eq.2 hc4) ?_
        refine ge_batch [13, 14, 15, 16, 17] (ans := []) (vs := [(39, .bool (decide ((i1 : Int) ≥ (l1.length : Int)))), (38, .bool (decide ((i1 : Int) ≥ (l1.length : Int)))), (37, .int .i64 (l1.length : Int)), (36, .slice A1 l1.length c1), (35, .int .i64 (i1 : Int))]) (l := []) (by kernel_rfl) trivial ?_
        by_cases hc5 : (i1 : Int) ≥ (l1.length : Int)
        · rw [if_pos hc5] at h
          refine ge_known (t := 39) (b := decide ((i1 : Int) ≥ (l1.length : Int))) (c := true) (by kernel_rfl) (decide_eq_true hc5) ?_
          refine ge_batch [18, 19, 20, 21, 22] (ans := []) (vs := [(44, .bool (e1 != x2)), (43, .bool (e1 != x2)), (42, .bool (e1 != x2)), (41, .int .i64 x2), (40, .int .i64 e1)]) (l := []) (by kernel_rfl) trivial ?_
          refine ge_nil fun a hF => hK9 _ _ ?_ a hF
          by_cases hc6 : e1 = x2
          · rw [if_pos hc6] at h
            refine we_known (t := 44) (b := (e1 != x2)) (v := false) (by kernel_rfl) (bne_eq_false_iff_eq.2 hc6) ?_
            refine we_false (by kernel_rfl) ?_
            refine we_skip fun a hF => hK7 _ _ ?_ a hF
            refine we_region [(0, 0), (1, 0)] rfl ?_
            refine ge_addn (d := 45) (ty := 3) (x := (.tmp 17)) (y := (.const (.int .i64 1))) (t := 3) (t2 := 3) (k := .i64) (m := i1) (by kernel_rfl) (by kernel_rfl) (by kernel_rfl) (by have h0 := hR0.small; omega) ?_
            refine ge_batch [1] (ans := []) (vs := [(17, .int .i64 ((i1 + 1 : Nat) : Int))]) (l := []) (by kernel_rfl) trivial ?_
            obtain rfl := Option.some.inj h
            exact ge_nil fun a hF => hQ _ _ _ (Outs.again ⟨hS, hF.weaken ⟨by kernel_rfl, by kernel_rfl, by kernel_rfl, by kernel_rfl, by kernel_rfl, trivial⟩⟩)
          · rw [if_neg hc6] at h
            refine we_known (t := 44) (b := (e1 != x2)) (v := true) (by kernel_rfl) (bne_iff_ne.2 hc6) ?_
            refine we_true (by kernel_rfl) ?_
            refine we_seq fun K10 hK10 => ?_
            refine we_region [(0, 0)] rfl ?_
            refine ge_batch [0] (ans := []) (vs := [(6, .bool false)]) (l := []) (by kernel_rfl) trivial ?_
            refine ge_nil fun a hF => hK10 _ _ ?_ a hF
            obtain rfl := Option.some.inj h
            exact we_ret fun a hF => hQ _ _ _ (Outs.out nofun (Exits.on ⟨rfl, (post_ret (rs := [.tmp 6]) (ans := []) (vs := [.bool false]) (l := []) rfl (by kernel_rfl) trivial ⟨rfl, hS⟩) a hF⟩))
        · rw [if_neg hc5] at h
          refine ge_known (t := 39) (b := decide ((i1 : Int) ≥ (l1.length : Int))) (c := false) (by kernel_rfl) (decide_eq_false hc5) ?_
          refine ge_batch [18, 19, 20, 21, 22] (ans := []) (vs := [(44, .bool false), (43, .bool false), (42, undef), (41, undef), (40, undef)]) (l := []) (by kernel_rfl) trivial ?_
          refine ge_nil fun a hF => hK9 _ _ ?_ a hF
          refine we_false (by kernel_rfl) ?_
          refine we_skip fun a hF => hK7 _ _ ?_ a hF
          refine we_region [(0, 0), (1, 0)] rfl ?_
          refine ge_addn (d := 45) (ty := 3) (x := (.tmp 17)) (y := (.const (.int .i64 1))) (t := 3) (t2 := 3) (k := .i64) (m := i1) (by kernel_rfl) (by kernel_rfl) (by kernel_rfl) (by have h0 := hR0.small; omega) ?_
          refine ge_batch [1] (ans := []) (vs := [(17, .int .i64 ((i1 + 1 : Nat) : Int))]) (l := []) (by kernel_rfl) trivial ?_
          obtain rfl := Option.some.inj h
          exact ge_nil fun a hF => hQ _ _ _ (Outs.again ⟨hS, hF.weaken ⟨by kernel_rfl, by kernel_rfl, by kernel_rfl, by kernel_rfl, by kernel_rfl, trivial⟩⟩)
      · rw [if_neg hc4] at h
        refine ge_known (t := 34) (b := (e1 != e2)) (c := true) (by kernel_rfl) (bne_iff_ne.2 hc4) ?_
        refine ge_batch [13, 14, 15, 16, 17, 18, 19, 20, 21, 22] (ans := []) (vs := [(44, .bool true), (43, undef), (42, undef), (41, undef), (40, undef), (39, undef), (38, undef), (37, undef), (36, undef), (35, undef)]) (l := []) (by kernel_rfl) trivial ?_
        refine ge_nil fun a hF => hK9 _ _ ?_ a hF
        refine we_true (by kernel_rfl) ?_
        refine we_seq fun K11 hK11 => ?_
        refine we_region [(0, 0)] rfl ?_
        refine ge_batch [0] (ans := []) (vs := [(6, .bool false)]) (l := []) (by kernel_rfl) trivial ?_
        refine ge_nil fun a hF => hK11 _ _ ?_ a hF
        obtain rfl := Option.some.inj h
        exact we_ret fun a hF => hQ _ _ _ (Outs.out nofun (Exits.on ⟨rfl, (post_ret (rs := [.tmp 6]) (ans := []) (vs := [.bool false]) (l := []) rfl (by kernel_rfl) trivial ⟨rfl, hS⟩) a hF⟩))
    · rw [if_neg hc3] at h
      refine ge_known (t := 26) (b := decide ((i1 : Int) < (l1.length : Int))) (c := false) (by kernel_rfl) (decide_eq_false hc3) ?_
      refine ge_batch [5, 6, 7, 8, 9, 10, 11, 12, 13, 14, 15, 16, 17] (ans := []) (vs := [(39, .bool (decide ((i1 : Int) ≥ (l1.length : Int)))), (38, .bool (decide ((i1 : Int) ≥ (l1.length : Int)))), (37, .int .i64 (l1.length : Int)), (36, .slice A1 l1.length c1), (35, .int .i64 (i1 : Int)), (34, .bool false), (33, .bool false), (32, undef), (31, undef), (30, undef), (29, undef), (28, undef), (27, undef)]) (l := []) (by kernel_rfl) trivial ?_
      by_cases hc7 : (i1 : Int) ≥ (l1.length : Int)
      · rw [if_pos hc7] at h
        refine ge_known (t := 39) (b := decide ((i1 : Int) ≥ (l1.length : Int))) (c := true) (by kernel_rfl) (decide_eq_true hc7) ?_
        refine ge_batch [18, 19, 20, 21, 22] (ans := []) (vs := [(44, .bool (e1 != x2)), (43, .bool (e1 != x2)), (42, .bool (e1 != x2)), (41, .int .i64 x2), (40, .int .i64 e1)]) (l := []) (by kernel_rfl) trivial ?_
        refine ge_nil fun a hF => hK9 _ _ ?_ a hF
        by_cases hc8 : e1 = x2
        · rw [if_pos hc8] at h
          refine we_known (t := 44) (b := (e1 != x2)) (v := false) (by kernel_rfl) (bne_eq_false_iff_eq.2 hc8) ?_
          refine we_false (by kernel_rfl) ?_
          refine we_skip fun a hF => hK7 _ _ ?_ a hF
          refine we_region [(0, 0), (1, 0)] rfl ?_
          refine ge_addn (d := 45) (ty := 3) (x := (.tmp 17)) (y := (.const (.int .i64 1))) (t := 3) (t2 := 3) (k := .i64) (m := i1) (by kernel_rfl) (by kernel_rfl) (by kernel_rfl) (by have h0 := hR0.small; omega) ?_
          refine ge_batch [1] (ans := []) (vs := [(17, .int .i64 ((i1 + 1 : Nat) : Int))]) (l := []) (by kernel_rfl) trivial ?_
          obtain rfl := Option.some.inj h
          exact ge_nil fun a hF => hQ _ _ _ (Outs.again ⟨hS, hF.weaken ⟨by kernel_rfl, by kernel_rfl, by kernel_rfl, by kernel_rfl, by kernel_rfl, trivial⟩⟩)
        · rw [if_neg hc8] at h
          refine we_known (t := 44) (b := (e1 != x2)) (v := true) (by kernel_rfl) (bne_iff_ne.2 hc8) ?_
          refine we_true (by kernel_rfl) ?_
          refine we_seq fun K12 hK12 => ?_
          refine we_region [(0, 0)] rfl ?_
          refine ge_batch [0] (ans := []) (vs := [(6, .bool false)]) (l := []) (by kernel_rfl) trivial ?_
          refine ge_nil fun a hF => hK12 _ _ ?_ a hF
          obtain rfl := Option.some.inj h
          exact we_ret fun a hF => hQ _ _ _ (Outs.out nofun (Exits.on ⟨rfl, (post_ret (rs := [.tmp 6]) (ans := []) (vs := [.bool false]) (l := []) rfl (by kernel_rfl) trivial ⟨rfl, hS⟩) a hF⟩))
      · rw [if_neg hc7] at h
        refine ge_known (t := 39) (b := decide ((i1 : Int) ≥ (l1.length : Int))) (c := false) (by kernel_rfl) (decide_eq_false hc7) ?_
        refine ge_batch [18, 19, 20, 21, 22] (ans := []) (vs := [(44, .bool false), (43, .bool false), (42, undef), (41, undef), (40, undef)]) (l := []) (by kernel_rfl) trivial ?_
        refine ge_nil fun a hF => hK9 _ _ ?_ a hF
        refine we_false (by kernel_rfl) ?_
        refine we_skip fun a hF => hK7 _ _ ?_ a hF
        refine we_region [(0, 0), (1, 0)] rfl ?_
        refine ge_addn (d := 45) (ty := 3) (x := (.tmp 17)) (y := (.const (.int .i64 1))) (t := 3) (t2 := 3) (k := .i64) (m := i1) (by kernel_rfl) (by kernel_rfl) (by kernel_rfl) (by have h0 := hR0.small; omega) ?_
        refine ge_batch [1] (ans := []) (vs := [(17, .int .i64 ((i1 + 1 : Nat) : Int))]) (l := []) (by kernel_rfl) trivial ?_
        obtain rfl := Option.some.inj h
        exact ge_nil fun a hF => hQ _ _ _ (Outs.again ⟨hS, hF.weaken ⟨by kernel_rfl, by kernel_rfl, by kernel_rfl, by kernel_rfl, by kernel_rfl, trivial⟩⟩)
  · rw [if_neg hc2] at h
    refine we_known (t := 18) (b := decide ((i1 : Int) < (f0.length : Int))) (v := false) (by kernel_rfl) (decide_eq_false hc2) ?_
    refine we_false (by kernel_rfl) ?_
    obtain rfl := Option.some.inj h
    exact we_exit fun a hF => hQ _ _ _ (Outs.out nofun (Exits.here ⟨hS, hF.weaken trivial⟩))
theorem ps_Still_int_ok (K : Nat) (f0 : List Int) (A0 : Option Addr) (n0 : Nat) (c0 : Nat) (l1 : List Int) (A1 : Option Addr) (c1 : Nat) (x2 : Int) (w0 : World) (hR0 : RdL w0 A0 f0) (hc0 : f0.length ≤ c0) (hR1 : RdL w0 A1 l1) (hL1 : l1.length ≤ c1) (r : Bool) (h : ps_Still_int.f K f0 l1 x2 = some r) :
    Calls Try.prog 27 #[.slice A0 n0 c0, .slice A1 l1.length c1, .int .i64 x2] w0 (ps_Still_int.Post w0 r) := by
  have hS := St.start w0
  unfold ps_Still_int.f at h
  refine calls_enter (n := 46) (args := [.slice A0 n0 c0, .slice A1 l1.length c1, .int .i64 x2]) (fn := Try.f27) rfl rfl rfl rfl ?_
  show WE _ _ _ _ [(0, .slice A0 n0 c0), (1, .slice A1 l1.length c1), (2, .int .i64 x2)] _
  refine we_seq fun K1 hK1 => ?_
  refine we_region [(0, 0)] rfl ?_
  refine ge_batch [0] (ans := []) (vs := [(6, .bool false)]) (l := []) (by kernel_rfl) trivial ?_
  refine ge_nil fun a hF => hK1 _ _ ?_ a hF
  refine we_seq fun K2 hK2 => ?_
  refine we_region [(0, 0), (1, 0), (2, 0), (3, 0), (4, 0), (5, 0)] rfl ?_
  refine ge_batch [0, 1, 2, 3] (ans := []) (vs := [(13, .int .i64 (IntKind.i64.wrap ((l1.length : Int) + 3))), (12, .int .i64 (l1.length : Int)), (11, .slice A1 l1.length c1), (10, .slice A0 n0 c0)]) (l := []) (by kernel_rfl) trivial ?_
  by_cases hc1 : (IntKind.i64.wrap ((l1.length : Int) + 3)) = (f0.length : Int)
  · rw [if_pos hc1] at h
    refine ge_sliceHi (d := 14) (ty := 26) (t := 26) (el := 3) (sz := 1) (m := n0) (c := c0) (hn := f0.length) (x := (.tmp 10)) (y := (.tmp 13)) (A := A0) (k' := .i64) (hi := (IntKind.i64.wrap ((l1.length : Int) + 3))) (by kernel_rfl) (by kernel_rfl) (by kernel_rfl) hc1 (by kernel_rfl) (by kernel_rfl) hc0 ?_
    refine ge_batch [5] (ans := []) (vs := [(7, .slice A0 f0.length c0)]) (l := []) (by kernel_rfl) trivial ?_
    refine ge_nil fun a hF => hK2 _ _ ?_ a hF
    refine we_seq fun K3 hK3 => ?_
    refine we_seq fun K4 hK4 => ?_
    refine we_region [(0, 0), (1, 0), (2, 0)] rfl ?_
    refine ge_batch [0, 1, 2] (ans := []) (vs := [(17, .int .i64 0), (16, .int .i64 (f0.length : Int)), (15, .slice A0 f0.length c0)]) (l := []) (by kernel_rfl) trivial ?_
    refine ge_nil fun a hF => hK4 _ _ ?_ a hF
    refine we_block ?_
    rcases hq1 : iter (ps_Still_int.r0 f0 l1 x2) K 0 with _ | (_ | rr1)
    · rw [hq1] at h; cases h
    · rw [hq1] at h
      simp only [] at h
      refine we_iter (A := ps_Still_int.A0 K w0 f0 A0 n0 c0 l1 A1 c1 x2 hR0 hc0 hR1 hL1 hc1) (B := ps_Still_int.B0 K w0 f0 A0 n0 c0 l1 A1 c1 x2 hR0 hc0 hR1 hL1 hc1) hq1 (fun a hF => ⟨hS, hF.weaken ⟨by kernel_rfl, by kernel_rfl, by kernel_rfl, by kernel_rfl, by kernel_rfl, trivial⟩⟩) (fun s o hf a w hA Q hQ => ps_Still_int_r0 K w0 f0 A0 n0 c0 l1 A1 c1 x2 hR0 hc0 hR1 hL1 hc1 s o hf a w hA Q hQ) ?_
      rintro _ a w1 _ ⟨rfl, hS1, hF⟩
      replace hS1 : St w0 w1 [] := hS1
      refine hK3 [] w1 ?_ a hF
      refine we_seq fun K13 hK13 => ?_
      refine we_region [(0, 0)] rfl ?_
      refine ge_batch [0] (ans := []) (vs := [(6, .bool true)]) (l := []) (by kernel_rfl) trivial ?_
      refine ge_nil fun a hF => hK13 _ _ ?_ a hF
      obtain rfl := Option.some.inj h
      exact we_ret (post_ret (rs := [.tmp 6]) (ans := []) (vs := [.bool true]) (l := []) rfl (by kernel_rfl) trivial ⟨rfl, hS1⟩)
    · rw [hq1] at h
      simp only [] at h
      refine we_iter (A := ps_Still_int.A0 K w0 f0 A0 n0 c0 l1 A1 c1 x2 hR0 hc0 hR1 hL1 hc1) (B := ps_Still_int.B0 K w0 f0 A0 n0 c0 l1 A1 c1 x2 hR0 hc0 hR1 hL1 hc1) hq1 (fun a hF => ⟨hS, hF.weaken ⟨by kernel_rfl, by kernel_rfl, by kernel_rfl, by kernel_rfl, by kernel_rfl, trivial⟩⟩) (fun s o hf a w hA Q hQ => ps_Still_int_r0 K w0 f0 A0 n0 c0 l1 A1 c1 x2 hR0 hc0 hR1 hL1 hc1 s o hf a w hA Q hQ) ?_
      rintro _ a w1 _ ⟨rfl, hb⟩
      obtain rfl := Option.some.inj h
      exact hb
  · rw [if_neg hc1] at h
    cases h
end Go.Proofs.Ytchcdadpahakfaa.GV
