/- Walks of single functions, written by a program of this work. -/
import Derived.Test.YtlcndfafkegjgaaDoorGWWindowsSupply2
namespace Go.Proofs.YtlcndfafkegjgaaDoor.GV
open Go Go.RowKit
set_option linter.unusedVariables false
set_option linter.unusedSimpArgs false
set_option maxRecDepth 100000

/-! punctual/punctualsame.Still[punctual/api.Window] -/
abbrev punctualsame_Still_api_Window.Post (w0 : World) (r : Bool) (e : Ending) (w : World) : Prop := e = .returned (.bool r) ∧ St w0 w []
def punctualsame_Still_api_Window.r0 (f0 : List SWindow) (l1 : List SWindow) (x2 : SWindow) : Nat → Option (Nat ⊕ (Unit ⊕ Bool))
  | i1 =>
    if (i1 : Int) < (f0.length : Int) then
      match f0[i1]? with
      | none => none
      | some e1 =>
        if (i1 : Int) < (l1.length : Int) then
          match l1[i1]? with
          | none => none
          | some e2 =>
            if (SWindow.eqb e1 e2) = true then
              if (i1 : Int) ≥ (l1.length : Int) then
                if (SWindow.eqb e1 x2) = true then
                  some (.inl (i1 + 1))
                else
                  some (.inr (.inr false))
              else
                some (.inl (i1 + 1))
            else
              some (.inr (.inr false))
        else
          if (i1 : Int) ≥ (l1.length : Int) then
            if (SWindow.eqb e1 x2) = true then
              some (.inl (i1 + 1))
            else
              some (.inr (.inr false))
          else
            some (.inl (i1 + 1))
    else
      some (.inr (.inl ()))
def punctualsame_Still_api_Window.f (K : Nat) (f0 : List SWindow) (l1 : List SWindow) (x2 : SWindow) : Option Bool :=
  if (IntKind.i64.wrap ((l1.length : Int) + 3)) = (f0.length : Int) then
    match iter (punctualsame_Still_api_Window.r0 f0 l1 x2) K 0 with
    | none => none
    | some (.inl _) =>
      some true
    | some (.inr rr1) =>
      some rr1
  else
    none
abbrev punctualsame_Still_api_Window.A0 (K : Nat) (w0 : World) (f0 : List SWindow) (A0 : Option Addr) (n0 : Nat) (c0 : Nat) (l1 : List SWindow) (A1 : Option Addr) (c1 : Nat) (x2 : SWindow) (hR0 : RdL w0 A0 f0) (hc0 : f0.length ≤ c0) (hR1 : RdL w0 A1 l1) (hL1 : l1.length ≤ c1) (b1 : Nat) (hc1 : (IntKind.i64.wrap ((l1.length : Int) + 3)) = (f0.length : Int)) : Nat → Act → World → Prop := fun (s : Nat) a w => St w0 w [Own.blk b1 (.cells #[.int .i64 x2.At, .int .i64 x2.Len] 27 (0, 0))] ∧ Frm 46 a [(1, .slice A1 l1.length c1), (5, .pointer (some ⟨b1, 0, none⟩)), (15, .slice A0 f0.length c0), (16, .int .i64 (f0.length : Int)), (17, .int .i64 (s : Int))]
abbrev punctualsame_Still_api_Window.B0 (K : Nat) (w0 : World) (f0 : List SWindow) (A0 : Option Addr) (n0 : Nat) (c0 : Nat) (l1 : List SWindow) (A1 : Option Addr) (c1 : Nat) (x2 : SWindow) (hR0 : RdL w0 A0 f0) (hc0 : f0.length ≤ c0) (hR1 : RdL w0 A1 l1) (hL1 : l1.length ≤ c1) (b1 : Nat) (hc1 : (IntKind.i64.wrap ((l1.length : Int) + 3)) = (f0.length : Int)) : (Unit ⊕ Bool) → Exit → Act → World → Prop := Exits 0 (fun (s : Unit) a w => St w0 w [] ∧ Frm 46 a []) (Rets Tryd.prog Tryd.f20 (punctualsame_Still_api_Window.Post w0))
theorem punctualsame_Still_api_Window_r0 (K : Nat) (w0 : World) (f0 : List SWindow) (A0 : Option Addr) (n0 : Nat) (c0 : Nat) (l1 : List SWindow) (A1 : Option Addr) (c1 : Nat) (x2 : SWindow) (hR0 : RdL w0 A0 f0) (hc0 : f0.length ≤ c0) (hR1 : RdL w0 A1 l1) (hL1 : l1.length ≤ c1) (b1 : Nat) (hc1 : (IntKind.i64.wrap ((l1.length : Int) + 3)) = (f0.length : Int)) (s : Nat) (o : Nat ⊕ (Unit ⊕ Bool)) (h : punctualsame_Still_api_Window.r0 f0 l1 x2 s = some o) (a : Act) (w : World) (hA : punctualsame_Still_api_Window.A0 K w0 f0 A0 n0 c0 l1 A1 c1 x2 hR0 hc0 hR1 hL1 b1 hc1 s a w) (Q : Exit → Act → World → Prop) (hQ : ∀ x a w, Outs (punctualsame_Still_api_Window.A0 K w0 f0 A0 n0 c0 l1 A1 c1 x2 hR0 hc0 hR1 hL1 b1 hc1) (punctualsame_Still_api_Window.B0 K w0 f0 A0 n0 c0 l1 A1 c1 x2 hR0 hc0 hR1 hL1 b1 hc1) o x a w → Q x a w) : (subF Tryd.f20 [1, 1, 0, 1, 0, 0]).wp Tryd.prog Q a w := by
  obtain ⟨i1, hs⟩ : ∃ z, z = s := ⟨s, rfl⟩
  subst hs
  obtain ⟨hS, hF⟩ := hA
  replace hS : St w0 w [Own.blk b1 (.cells #[.int .i64 x2.At, .int .i64 x2.Len] 27 (0, 0))] := hS
  simp only [punctualsame_Still_api_Window.r0] at h
  refine (?_ : WE Tryd.prog 46 (subF Tryd.f20 [1, 1, 0, 1, 0, 0]) Q [(1, .slice A1 l1.length c1), (5, .pointer (some ⟨b1, 0, none⟩)), (15, .slice A0 f0.length c0), (16, .int .i64 (f0.length : Int)), (17, .int .i64 (i1 : Int))] w) a hF
  clear hF a
  refine we_seq fun K5 hK5 => ?_
  refine we_region [(0, 0)] rfl ?_
  refine ge_batch [0] (ans := []) (vs := [(18, .bool (decide ((i1 : Int) < (f0.length : Int))))]) (l := []) (by kernel_rfl) trivial ?_
  refine ge_nil fun a hF => hK5 _ _ ?_ a hF
  refine we_seq fun K6 hK6 => ?_
  by_cases hc2 : (i1 : Int) < (f0.length : Int)
  · rw [if_pos hc2] at h
    refine we_known (t := 18) (b := decide ((i1 : Int) < (f0.length : Int))) (v := true) (by kernel_rfl) (decide_eq_true hc2) ?_
    refine we_true (by kernel_rfl) ?_
    refine we_skip fun a hF => hK6 _ _ ?_ a hF
    refine we_seq fun K7 hK7 => ?_
    refine we_block ?_
    refine we_seq fun K8 hK8 => ?_
    refine we_region [(0, 0), (1, 0), (2, 0), (3, 1), (4, 0), (5, 2)] rfl ?_
    refine ge_batch [0] (ans := []) (vs := [(19, .int .i64 (i1 : Int))]) (l := []) (by kernel_rfl) trivial ?_
    rcases hx2 : f0[i1]? with _ | e1
    · rw [hx2] at h; cases h
    rw [hx2] at h
    simp only [] at h
    refine ge_index (d := 20) (ty := 0) (t := 22) (el := 27) (sz := 2) (m := f0.length) (c := c0) (x := (.tmp 15)) (y := (.tmp 17)) (A := A0) (k' := .i64) (j := (i1 : Int)) (jn := i1) (b0 := blkOf A0) (o0 := offOf A0) (by kernel_rfl) (by kernel_rfl) (by kernel_rfl) (by kernel_rfl) (by kernel_rfl) ((hS.rd hR0).eqSome (pos_of_get hx2)) rfl (lt_of_get hx2) ?_
    refine ge_batch [2] (ans := [.val (.int .i64 e1.At), .val (.int .i64 e1.Len)]) (vs := [(21, .agg #[.int .i64 e1.At, .int .i64 e1.Len])]) (l := [.loaded ⟨blkOf A0, offOf A0 + i1 * 2, none⟩ (.int .i64 e1.At), .loaded ⟨blkOf A0, offOf A0 + i1 * 2 + 1, none⟩ (.int .i64 e1.Len)]) (by kernel_rfl) ⟨RdL.cell (j := 0) (hS.rd hR0) hx2 rfl, RdL.cell (j := 1) (hS.rd hR0) hx2 rfl, trivial⟩ ?_
    refine ge_new (d := some 9) (o := .cells #[.int .i64 0, .int .i64 0] 27) (v := fun b => .pointer (some ⟨b, 0, none⟩)) hS (fun b => by kernel_rfl) fun b2 w2 hx3 hS2 => ?_
    refine ge_batch [4] (ans := []) (vs := [(8, .int .i64 (i1 : Int))]) (l := []) (by kernel_rfl) trivial ?_
    refine ge_set (b := b2) (j := 0) (cs := #[.int .i64 0, .int .i64 0]) (t := 27) (vs := [.int .i64 e1.At, .int .i64 e1.Len]) hS2 (by kernel_rfl) rfl rfl fun w3 hS3 => ?_
    have hS4 : St w0 w3 [Own.blk b2 (.cells #[.int .i64 e1.At, .int .i64 e1.Len] 27 (0, 0)), Own.blk b1 (.cells #[.int .i64 x2.At, .int .i64 x2.Len] 27 (0, 0))] := hS3
    refine ge_nil fun a hF => hK8 _ _ ?_ a hF
    refine we_seq fun K9 hK9 => ?_
    refine we_draws (by kernel_rfl) [(0, 0), (1, 0), (2, 0), (3, 0), (4, 0), (5, 0), (6, 0), (7, 0), (8, 0), (9, 0), (10, 0), (11, 0), (12, 0), (13, 0), (14, 0), (15, 0), (16, 0), (17, 0), (18, 0), (19, 0), (20, 0), (21, 0), (22, 0)] (by kernel_rfl) ?_
    have hS5 := hS4.drew
    refine ge_batch [0, 1, 2, 3, 4] (ans := []) (vs := [(26, .bool (decide ((i1 : Int) < (l1.length : Int)))), (25, .bool (decide ((i1 : Int) < (l1.length : Int)))), (24, .int .i64 (l1.length : Int)), (23, .slice A1 l1.length c1), (22, .int .i64 (i1 : Int))]) (l := []) (by kernel_rfl) trivial ?_
    by_cases hc3 : (i1 : Int) < (l1.length : Int)
    · rw [if_pos hc3] at h
      refine ge_known (t := 26) (b := decide ((i1 : Int) < (l1.length : Int))) (c := true) (by kernel_rfl) (decide_eq_true hc3) ?_
      refine ge_batch [5, 6, 7] (ans := [.val (.int .i64 e1.At), .val (.int .i64 e1.Len)]) (vs := [(29, .int .i64 (i1 : Int)), (28, .slice A1 l1.length c1), (27, .agg #[.int .i64 e1.At, .int .i64 e1.Len])]) (l := [.loaded ⟨b2, 0, none⟩ (.int .i64 e1.At), .loaded ⟨b2, 1, none⟩ (.int .i64 e1.Len)]) (by kernel_rfl) ⟨hS5.cell 0 rfl rfl, hS5.cell 0 rfl rfl, trivial⟩ ?_
      rcases hx4 : l1[i1]? with _ | e2
      · rw [hx4] at h; cases h
      rw [hx4] at h
      simp only [] at h
      refine ge_index (d := 30) (ty := 0) (t := 22) (el := 27) (sz := 2) (m := l1.length) (c := c1) (x := (.tmp 28)) (y := (.tmp 29)) (A := A1) (k' := .i64) (j := (i1 : Int)) (jn := i1) (b0 := blkOf A1) (o0 := offOf A1) (by kernel_rfl) (by kernel_rfl) (by kernel_rfl) (by kernel_rfl) (by kernel_rfl) ((hS5.rd hR1).eqSome (pos_of_get hx4)) rfl (lt_of_get hx4) ?_
      refine ge_batch [9] (ans := [.val (.int .i64 e2.At), .val (.int .i64 e2.Len)]) (vs := [(31, .agg #[.int .i64 e2.At, .int .i64 e2.Len])]) (l := [.loaded ⟨blkOf A1, offOf A1 + i1 * 2, none⟩ (.int .i64 e2.At), .loaded ⟨blkOf A1, offOf A1 + i1 * 2 + 1, none⟩ (.int .i64 e2.Len)]) (by kernel_rfl) ⟨RdL.cell (j := 0) (hS5.rd hR1) hx4 rfl, RdL.cell (j := 1) (hS5.rd hR1) hx4 rfl, trivial⟩ ?_
      refine ge_eqs (d := 32) (ty := 4) (op := .neq) (x := (.tmp 27)) (y := (.tmp 31)) (t := 27) (t2 := 27) (xs := #[.int .i64 e1.At, .int .i64 e1.Len]) (ys := #[.int .i64 e2.At, .int .i64 e2.Len]) (r := (SWindow.eqb e1 e2)) (v := !(SWindow.eqb e1 e2)) (by kernel_rfl) (by kernel_rfl) (by kernel_rfl) (by kernel_rfl) (by kernel_rfl) rfl ?_
      refine ge_batch [11, 12] (ans := []) (vs := [(34, .bool (!(SWindow.eqb e1 e2))), (33, .bool (!(SWindow.eqb e1 e2)))]) (l := []) (by kernel_rfl) trivial ?_
      by_cases hc4 : (SWindow.eqb e1 e2) = true
      · rw [if_pos hc4] at h
        refine ge_known (t := 34) (b := !(SWindow.eqb e1 e2)) (c := false) (by kernel_rfl) (congrArg (fun z => !z) hc4) ?_
        refine ge_batch [13, 14, 15, 16, 17] (ans := []) (vs := [(39, .bool (decide ((i1 : Int) ≥ (l1.length : Int)))), (38, .bool (decide ((i1 : Int) ≥ (l1.length : Int)))), (37, .int .i64 (l1.length : Int)), (36, .slice A1 l1.length c1), (35, .int .i64 (i1 : Int))]) (l := []) (by kernel_rfl) trivial ?_
        by_cases hc5 : (i1 : Int) ≥ (l1.length : Int)
        · rw [if_pos hc5] at h
          refine ge_known (t := 39) (b := decide ((i1 : Int) ≥ (l1.length : Int))) (c := true) (by kernel_rfl) (decide_eq_true hc5) ?_
          refine ge_batch [18, 19] (ans := [.val (.int .i64 e1.At), .val (.int .i64 e1.Len), .val (.int .i64 x2.At), .val (.int .i64 x2.Len)]) (vs := [(41, .agg #[.int .i64 x2.At, .int .i64 x2.Len]), (40, .agg #[.int .i64 e1.At, .int .i64 e1.Len])]) (l := [.loaded ⟨b2, 0, none⟩ (.int .i64 e1.At), .loaded ⟨b2, 1, none⟩ (.int .i64 e1.Len), .loaded ⟨b1, 0, none⟩ (.int .i64 x2.At), .loaded ⟨b1, 1, none⟩ (.int .i64 x2.Len)]) (by kernel_rfl) ⟨hS5.cell 0 rfl rfl, hS5.cell 0 rfl rfl, hS5.cell 1 rfl rfl, hS5.cell 1 rfl rfl, trivial⟩ ?_
          refine ge_eqs (d := 42) (ty := 4) (op := .neq) (x := (.tmp 40)) (y := (.tmp 41)) (t := 27) (t2 := 27) (xs := #[.int .i64 e1.At, .int .i64 e1.Len]) (ys := #[.int .i64 x2.At, .int .i64 x2.Len]) (r := (SWindow.eqb e1 x2)) (v := !(SWindow.eqb e1 x2)) (by kernel_rfl) (by kernel_rfl) (by kernel_rfl) (by kernel_rfl) (by kernel_rfl) rfl ?_
          refine ge_batch [21, 22] (ans := []) (vs := [(44, .bool (!(SWindow.eqb e1 x2))), (43, .bool (!(SWindow.eqb e1 x2)))]) (l := []) (by kernel_rfl) trivial ?_
          refine ge_nil fun a hF => hK9 _ _ ?_ a hF
          by_cases hc6 : (SWindow.eqb e1 x2) = true
          · rw [if_pos hc6] at h
            refine we_known (t := 44) (b := !(SWindow.eqb e1 x2)) (v := false) (by kernel_rfl) (congrArg (fun z => !z) hc6) ?_
            refine we_false (by kernel_rfl) ?_
            refine we_skip fun a hF => hK7 _ _ ?_ a hF
            refine we_region [(0, 0), (1, 0)] rfl ?_
            refine ge_addn (d := 45) (ty := 3) (x := (.tmp 17)) (y := (.const (.int .i64 1))) (t := 3) (t2 := 3) (k := .i64) (m := i1) (by kernel_rfl) (by kernel_rfl) (by kernel_rfl) (by have h0 := hR0.small; omega) ?_
            refine ge_batch [1] (ans := []) (vs := [(17, .int .i64 ((i1 + 1 : Nat) : Int))]) (l := []) (by kernel_rfl) trivial ?_
            have hS6 := hS5.bring 1 rfl
            have hS7 := hS6.takeN 1
            obtain rfl := Option.some.inj h
            exact ge_nil fun a hF => hQ _ _ _ (Outs.again ⟨hS7, hF.weaken ⟨by kernel_rfl, by kernel_rfl, by kernel_rfl, by kernel_rfl, by kernel_rfl, trivial⟩⟩)
          · rw [if_neg hc6] at h
            refine we_known (t := 44) (b := !(SWindow.eqb e1 x2)) (v := true) (by kernel_rfl) (congrArg (fun z => !z) (Bool.eq_false_iff.2 hc6)) ?_
            refine we_true (by kernel_rfl) ?_
            refine we_seq fun K10 hK10 => ?_
            refine we_region [(0, 0)] rfl ?_
            refine ge_batch [0] (ans := []) (vs := [(6, .bool false)]) (l := []) (by kernel_rfl) trivial ?_
            refine ge_nil fun a hF => hK10 _ _ ?_ a hF
            have hS8 := hS5.takeN 0
            obtain rfl := Option.some.inj h
            exact we_ret fun a hF => hQ _ _ _ (Outs.out nofun (Exits.on ⟨rfl, (post_ret (rs := [.tmp 6]) (ans := []) (vs := [.bool false]) (l := []) rfl (by kernel_rfl) trivial ⟨rfl, hS8⟩) a hF⟩))
        · rw [if_neg hc5] at h
          refine ge_known (t := 39) (b := decide ((i1 : Int) ≥ (l1.length : Int))) (c := false) (by kernel_rfl) (decide_eq_false hc5) ?_
          refine ge_batch [18, 19, 20, 21, 22] (ans := []) (vs := [(44, .bool false), (43, .bool false), (42, undef), (41, undef), (40, undef)]) (l := []) (by kernel_rfl) trivial ?_
          refine ge_nil fun a hF => hK9 _ _ ?_ a hF
          refine we_false (by kernel_rfl) ?_
          refine we_skip fun a hF => hK7 _ _ ?_ a hF
          refine we_region [(0, 0), (1, 0)] rfl ?_
          refine ge_addn (d := 45) (ty := 3) (x := (.tmp 17)) (y := (.const (.int .i64 1))) (t := 3) (t2 := 3) (k := .i64) (m := i1) (by kernel_rfl) (by kernel_rfl) (by kernel_rfl) (by have h0 := hR0.small; omega) ?_
          refine ge_batch [1] (ans := []) (vs := [(17, .int .i64 ((i1 + 1 : Nat) : Int))]) (l := []) (by kernel_rfl) trivial ?_
          have hS9 := hS5.bring 1 rfl
          have hS10 := hS9.takeN 1
          obtain rfl := Option.some.inj h
          exact ge_nil fun a hF => hQ _ _ _ (Outs.again ⟨hS10, hF.weaken ⟨by kernel_rfl, by kernel_rfl, by kernel_rfl, by kernel_rfl, by kernel_rfl, trivial⟩⟩)
      · rw [if_neg hc4] at h
        refine ge_known (t := 34) (b := !(SWindow.eqb e1 e2)) (c := true) (by kernel_rfl) (congrArg (fun z => !z) (Bool.eq_false_iff.2 hc4)) ?_
        refine ge_batch [13, 14, 15, 16, 17, 18, 19, 20, 21, 22] (ans := []) (vs := [(44, .bool true), (43, undef), (42, undef), (41, undef), (40, undef), (39, undef), (38, undef), (37, undef), (36, undef), (35, undef)]) (l := []) (by kernel_rfl) trivial ?_
        refine ge_nil fun a hF => hK9 _ _ ?_ a hF
        refine we_true (by kernel_rfl) ?_
        refine we_seq fun K11 hK11 => ?_
        refine we_region [(0, 0)] rfl ?_
        refine ge_batch [0] (ans := []) (vs := [(6, .bool false)]) (l := []) (by kernel_rfl) trivial ?_
        refine ge_nil fun a hF => hK11 _ _ ?_ a hF
        have hS11 := hS5.takeN 0
        obtain rfl := Option.some.inj h
        exact we_ret fun a hF => hQ _ _ _ (Outs.out nofun (Exits.on ⟨rfl, (post_ret (rs := [.tmp 6]) (ans := []) (vs := [.bool false]) (l := []) rfl (by kernel_rfl) trivial ⟨rfl, hS11⟩) a hF⟩))
    · rw [if_neg hc3] at h
      refine ge_known (t := 26) (b := decide ((i1 : Int) < (l1.length : Int))) (c := false) (by kernel_rfl) (decide_eq_false hc3) ?_
      refine ge_batch [5, 6, 7, 8, 9, 10, 11, 12, 13, 14, 15, 16, 17] (ans := []) (vs := [(39, .bool (decide ((i1 : Int) ≥ (l1.length : Int)))), (38, .bool (decide ((i1 : Int) ≥ (l1.length : Int)))), (37, .int .i64 (l1.length : Int)), (36, .slice A1 l1.length c1), (35, .int .i64 (i1 : Int)), (34, .bool false), (33, .bool false), (32, undef), (31, undef), (30, undef), (29, undef), (28, undef), (27, undef)]) (l := []) (by kernel_rfl) trivial ?_
      by_cases hc7 : (i1 : Int) ≥ (l1.length : Int)
      · rw [if_pos hc7] at h
        refine ge_known (t := 39) (b := decide ((i1 : Int) ≥ (l1.length : Int))) (c := true) (by kernel_rfl) (decide_eq_true hc7) ?_
        refine ge_batch [18, 19] (ans := [.val (.int .i64 e1.At), .val (.int .i64 e1.Len), .val (.int .i64 x2.At), .val (.int .i64 x2.Len)]) (vs := [(41, .agg #[.int .i64 x2.At, .int .i64 x2.Len]), (40, .agg #[.int .i64 e1.At, .int .i64 e1.Len])]) (l := [.loaded ⟨b2, 0, none⟩ (.int .i64 e1.At), .loaded ⟨b2, 1, none⟩ (.int .i64 e1.Len), .loaded ⟨b1, 0, none⟩ (.int .i64 x2.At), .loaded ⟨b1, 1, none⟩ (.int .i64 x2.Len)]) (by kernel_rfl) ⟨hS5.cell 0 rfl rfl, hS5.cell 0 rfl rfl, hS5.cell 1 rfl rfl, hS5.cell 1 rfl rfl, trivial⟩ ?_
        refine ge_eqs (d := 42) (ty := 4) (op := .neq) (x := (.tmp 40)) (y := (.tmp 41)) (t := 27) (t2 := 27) (xs := #[.int .i64 e1.At, .int .i64 e1.Len]) (ys := #[.int .i64 x2.At, .int .i64 x2.Len]) (r := (SWindow.eqb e1 x2)) (v := !(SWindow.eqb e1 x2)) (by kernel_rfl) (by kernel_rfl) (by kernel_rfl) (by kernel_rfl) (by kernel_rfl) rfl ?_
        refine ge_batch [21, 22] (ans := []) (vs := [(44, .bool (!(SWindow.eqb e1 x2))), (43, .bool (!(SWindow.eqb e1 x2)))]) (l := []) (by kernel_rfl) trivial ?_
        refine ge_nil fun a hF => hK9 _ _ ?_ a hF
        by_cases hc8 : (SWindow.eqb e1 x2) = true
        · rw [if_pos hc8] at h
          refine we_known (t := 44) (b := !(SWindow.eqb e1 x2)) (v := false) (by kernel_rfl) (congrArg (fun z => !z) hc8) ?_
          refine we_false (by kernel_rfl) ?_
          refine we_skip fun a hF => hK7 _ _ ?_ a hF
          refine we_region [(0, 0), (1, 0)] rfl ?_
          refine ge_addn (d := 45) (ty := 3) (x := (.tmp 17)) (y := (.const (.int .i64 1))) (t := 3) (t2 := 3) (k := .i64) (m := i1) (by kernel_rfl) (by kernel_rfl) (by kernel_rfl) (by have h0 := hR0.small; omega) ?_
          refine ge_batch [1] (ans := []) (vs := [(17, .int .i64 ((i1 + 1 : Nat) : Int))]) (l := []) (by kernel_rfl) trivial ?_
          have hS12 := hS5.bring 1 rfl
          have hS13 := hS12.takeN 1
          obtain rfl := Option.some.inj h
          exact ge_nil fun a hF => hQ _ _ _ (Outs.again ⟨hS13, hF.weaken ⟨by kernel_rfl, by kernel_rfl, by kernel_rfl, by kernel_rfl, by kernel_rfl, trivial⟩⟩)
        · rw [if_neg hc8] at h
          refine we_known (t := 44) (b := !(SWindow.eqb e1 x2)) (v := true) (by kernel_rfl) (congrArg (fun z => !z) (Bool.eq_false_iff.2 hc8)) ?_
          refine we_true (by kernel_rfl) ?_
          refine we_seq fun K12 hK12 => ?_
          refine we_region [(0, 0)] rfl ?_
          refine ge_batch [0] (ans := []) (vs := [(6, .bool false)]) (l := []) (by kernel_rfl) trivial ?_
          refine ge_nil fun a hF => hK12 _ _ ?_ a hF
          have hS14 := hS5.takeN 0
          obtain rfl := Option.some.inj h
          exact we_ret fun a hF => hQ _ _ _ (Outs.out nofun (Exits.on ⟨rfl, (post_ret (rs := [.tmp 6]) (ans := []) (vs := [.bool false]) (l := []) rfl (by kernel_rfl) trivial ⟨rfl, hS14⟩) a hF⟩))
      · rw [if_neg hc7] at h
        refine ge_known (t := 39) (b := decide ((i1 : Int) ≥ (l1.length : Int))) (c := false) (by kernel_rfl) (decide_eq_false hc7) ?_
        refine ge_batch [18, 19, 20, 21, 22] (ans := []) (vs := [(44, .bool false), (43, .bool false), (42, undef), (41, undef), (40, undef)]) (l := []) (by kernel_rfl) trivial ?_
        refine ge_nil fun a hF => hK9 _ _ ?_ a hF
        refine we_false (by kernel_rfl) ?_
        refine we_skip fun a hF => hK7 _ _ ?_ a hF
        refine we_region [(0, 0), (1, 0)] rfl ?_
        refine ge_addn (d := 45) (ty := 3) (x := (.tmp 17)) (y := (.const (.int .i64 1))) (t := 3) (t2 := 3) (k := .i64) (m := i1) (by kernel_rfl) (by kernel_rfl) (by kernel_rfl) (by have h0 := hR0.small; omega) ?_
        refine ge_batch [1] (ans := []) (vs := [(17, .int .i64 ((i1 + 1 : Nat) : Int))]) (l := []) (by kernel_rfl) trivial ?_
        have hS15 := hS5.bring 1 rfl
        have hS16 := hS15.takeN 1
        obtain rfl := Option.some.inj h
        exact ge_nil fun a hF => hQ _ _ _ (Outs.again ⟨hS16, hF.weaken ⟨by kernel_rfl, by kernel_rfl, by kernel_rfl, by kernel_rfl, by kernel_rfl, trivial⟩⟩)
  · rw [if_neg hc2] at h
    refine we_known (t := 18) (b := decide ((i1 : Int) < (f0.length : Int))) (v := false) (by kernel_rfl) (decide_eq_false hc2) ?_
    refine we_false (by kernel_rfl) ?_
    have hS17 := hS.takeN 0
    obtain rfl := Option.some.inj h
    exact we_exit fun a hF => hQ _ _ _ (Outs.out nofun (Exits.here ⟨hS17, hF.weaken trivial⟩))
theorem punctualsame_Still_api_Window_ok (K : Nat) (f0 : List SWindow) (A0 : Option Addr) (n0 : Nat) (c0 : Nat) (l1 : List SWindow) (A1 : Option Addr) (c1 : Nat) (x2 : SWindow) (w0 : World) (hR0 : RdL w0 A0 f0) (hc0 : f0.length ≤ c0) (hR1 : RdL w0 A1 l1) (hL1 : l1.length ≤ c1) (r : Bool) (h : punctualsame_Still_api_Window.f K f0 l1 x2 = some r) :
    Calls Tryd.prog 20 #[.slice A0 n0 c0, .slice A1 l1.length c1, .agg #[.int .i64 x2.At, .int .i64 x2.Len]] w0 (punctualsame_Still_api_Window.Post w0 r) := by
  have hS := St.start w0
  unfold punctualsame_Still_api_Window.f at h
  refine calls_enter (n := 46) (args := [.slice A0 n0 c0, .slice A1 l1.length c1, .agg #[.int .i64 x2.At, .int .i64 x2.Len]]) (fn := Tryd.f20) rfl rfl rfl rfl ?_
  show WE _ _ _ _ [(0, .slice A0 n0 c0), (1, .slice A1 l1.length c1), (2, .agg #[.int .i64 x2.At, .int .i64 x2.Len])] _
  refine we_seq fun K1 hK1 => ?_
  refine we_region [(0, 1), (1, 0)] rfl ?_
  refine ge_new (d := some 5) (o := .cells #[.int .i64 x2.At, .int .i64 x2.Len] 27) (v := fun b => .pointer (some ⟨b, 0, none⟩)) hS (fun b => by kernel_rfl) fun b1 w1 hx1 hS1 => ?_
  refine ge_batch [1] (ans := []) (vs := [(6, .bool false)]) (l := []) (by kernel_rfl) trivial ?_
  refine ge_nil fun a hF => hK1 _ _ ?_ a hF
  refine we_seq fun K2 hK2 => ?_
  refine we_region [(0, 0), (1, 0), (2, 0), (3, 0), (4, 0), (5, 0)] rfl ?_
  refine ge_batch [0, 1, 2, 3] (ans := []) (vs := [(13, .int .i64 (IntKind.i64.wrap ((l1.length : Int) + 3))), (12, .int .i64 (l1.length : Int)), (11, .slice A1 l1.length c1), (10, .slice A0 n0 c0)]) (l := []) (by kernel_rfl) trivial ?_
  by_cases hc1 : (IntKind.i64.wrap ((l1.length : Int) + 3)) = (f0.length : Int)
  · rw [if_pos hc1] at h
    refine ge_sliceHi (d := 14) (ty := 22) (t := 22) (el := 27) (sz := 2) (m := n0) (c := c0) (hn := f0.length) (x := (.tmp 10)) (y := (.tmp 13)) (A := A0) (k' := .i64) (hi := (IntKind.i64.wrap ((l1.length : Int) + 3))) (by kernel_rfl) (by kernel_rfl) (by kernel_rfl) hc1 (by kernel_rfl) (by kernel_rfl) hc0 ?_
    refine ge_batch [5] (ans := []) (vs := [(7, .slice A0 f0.length c0)]) (l := []) (by kernel_rfl) trivial ?_
    refine ge_nil fun a hF => hK2 _ _ ?_ a hF
    refine we_seq fun K3 hK3 => ?_
    refine we_seq fun K4 hK4 => ?_
    refine we_region [(0, 0), (1, 0), (2, 0)] rfl ?_
    refine ge_batch [0, 1, 2] (ans := []) (vs := [(17, .int .i64 0), (16, .int .i64 (f0.length : Int)), (15, .slice A0 f0.length c0)]) (l := []) (by kernel_rfl) trivial ?_
    refine ge_nil fun a hF => hK4 _ _ ?_ a hF
    refine we_block ?_
    rcases hq1 : iter (punctualsame_Still_api_Window.r0 f0 l1 x2) K 0 with _ | (_ | rr1)
    · rw [hq1] at h; cases h
    · rw [hq1] at h
      simp only [] at h
      refine we_iter (A := punctualsame_Still_api_Window.A0 K w0 f0 A0 n0 c0 l1 A1 c1 x2 hR0 hc0 hR1 hL1 b1 hc1) (B := punctualsame_Still_api_Window.B0 K w0 f0 A0 n0 c0 l1 A1 c1 x2 hR0 hc0 hR1 hL1 b1 hc1) hq1 (fun a hF => ⟨hS1, hF.weaken ⟨by kernel_rfl, by kernel_rfl, by kernel_rfl, by kernel_rfl, by kernel_rfl, trivial⟩⟩) (fun s o hf a w hA Q hQ => punctualsame_Still_api_Window_r0 K w0 f0 A0 n0 c0 l1 A1 c1 x2 hR0 hc0 hR1 hL1 b1 hc1 s o hf a w hA Q hQ) ?_
      rintro _ a w4 _ ⟨rfl, hS18, hF⟩
      replace hS18 : St w0 w4 [] := hS18
      refine hK3 [] w4 ?_ a hF
      refine we_seq fun K13 hK13 => ?_
      refine we_region [(0, 0)] rfl ?_
      refine ge_batch [0] (ans := []) (vs := [(6, .bool true)]) (l := []) (by kernel_rfl) trivial ?_
      refine ge_nil fun a hF => hK13 _ _ ?_ a hF
      obtain rfl := Option.some.inj h
      exact we_ret (post_ret (rs := [.tmp 6]) (ans := []) (vs := [.bool true]) (l := []) rfl (by kernel_rfl) trivial ⟨rfl, hS18⟩)
    · rw [hq1] at h
      simp only [] at h
      refine we_iter (A := punctualsame_Still_api_Window.A0 K w0 f0 A0 n0 c0 l1 A1 c1 x2 hR0 hc0 hR1 hL1 b1 hc1) (B := punctualsame_Still_api_Window.B0 K w0 f0 A0 n0 c0 l1 A1 c1 x2 hR0 hc0 hR1 hL1 b1 hc1) hq1 (fun a hF => ⟨hS1, hF.weaken ⟨by kernel_rfl, by kernel_rfl, by kernel_rfl, by kernel_rfl, by kernel_rfl, trivial⟩⟩) (fun s o hf a w hA Q hQ => punctualsame_Still_api_Window_r0 K w0 f0 A0 n0 c0 l1 A1 c1 x2 hR0 hc0 hR1 hL1 b1 hc1 s o hf a w hA Q hQ) ?_
      rintro _ a w1 _ ⟨rfl, hb⟩
      obtain rfl := Option.some.inj h
      exact hb
  · rw [if_neg hc1] at h
    cases h

/-! punctual/punctuallaw.WindowsSupply -/
abbrev WindowsSupply.Post (w0 : World) (r : Bool) (e : Ending) (w : World) : Prop := e = .returned (.bool r) ∧ St w0 w []
def WindowsSupply.p0 (x0 : Int) (l1 : List SWindow) (x3 : Int) : Option (Unit ⊕ Bool) :=
    if (few.f (l1.length : Int)) = true then
      if x3 > 2000 then
        if x3 ≤ 20000 then
          some (.inr true)
        else
          if x0 > 2000 then
            if x0 ≤ 10000 then
              some (.inr true)
            else
              some (.inl ())
          else
            some (.inl ())
      else
        if x0 > 2000 then
          if x0 ≤ 10000 then
            some (.inr true)
          else
            some (.inl ())
        else
          some (.inl ())
    else
      some (.inr true)
def WindowsSupply.p1 (K : Nat) (x0 : Int) (l1 : List SWindow) (x2 : Int) (r3 : SFault) : Option (Unit ⊕ Bool) :=
    match modes_Frame.f K x0 l1 with
    | none => none
    | some r4 =>
      if (SFault.eqb r4 r3) = true then
        match modes_Open.f K x0 l1 x2 with
        | none => none
        | some r5 =>
          if r3.Code = 0 then
            if x2 ≥ 0 then
              match punctualref_There.f K x0 l1 x2 with
              | none => none
              | some r6 =>
                if r5 = r6 then
                  some (.inl ())
                else
                  some (.inr false)
            else
              if r5 = false then
                some (.inl ())
              else
                some (.inr false)
          else
            if r5 = false then
              some (.inl ())
            else
              some (.inr false)
      else
        some (.inr false)
def WindowsSupply.p2 (r3 : SFault) : Option ((Int × Int × Int × Int × Int × Int) ⊕ Bool) :=
    some (.inl (0, 0, r3.Code, r3.At, r3.Code, r3.At))
def WindowsSupply.p4 (K : Nat) (x0 : Int) (l1 : List SWindow) (x2 : Int) (x3 : Int) (z7 : Int) (z11 : Int) (z12 : Int) : Option ((Int × Int × Int) ⊕ Bool) :=
    if x2 < 0 then
      some (.inl (z7, (punctualref_F.f 3 0).Code, (punctualref_F.f 3 0).At))
    else
      if x2 > 20000 then
        some (.inl (z7, (punctualref_F.f 3 0).Code, (punctualref_F.f 3 0).At))
      else
        if x3 < 0 then
          some (.inl (z7, (punctualref_F.f 3 0).Code, (punctualref_F.f 3 0).At))
        else
          if x3 > 20000 then
            some (.inl (z7, (punctualref_F.f 3 0).Code, (punctualref_F.f 3 0).At))
          else
            match punctualref_SupplyOf.f K x0 l1 x2 x3 with
            | none => none
            | some r9 =>
              some (.inl (r9, z11, z12))
def WindowsSupply.p3 (K : Nat) (x0 : Int) (l1 : List SWindow) (x2 : Int) (x3 : Int) (r3 : SFault) (z7 : Int) (z8 : Int) (z9 : Int) (z10 : Int) (z11 : Int) (z12 : Int) : Option ((Int × Int × Int × Int × Int × Int) ⊕ Bool) :=
    if r3.Code = 0 then
      match WindowsSupply.p4 K x0 l1 x2 x3 z7 z11 z12 with
      | none => none
      | some (.inl (z22, z23, z24)) =>
        if x3 < 0 then
          some (.inl (z22, z8, (punctualref_F.f 3 0).Code, (punctualref_F.f 3 0).At, z23, z24))
        else
          if x3 > 20000 then
            some (.inl (z22, z8, (punctualref_F.f 3 0).Code, (punctualref_F.f 3 0).At, z23, z24))
          else
            match punctualref_Lean.f K x0 l1 x3 with
            | none => none
            | some r10 =>
              if 0 ≤ x3 then
                match r10[(x3).toNat]? with
                | none => none
                | some e1 =>
                  some (.inl (z22, e1, z9, z10, z23, z24))
              else
                none
      | some (.inr rr1) =>
        some (.inr rr1)
    else
      some (.inl (z7, z8, z9, z10, z11, z12))
def WindowsSupply.f (K : Nat) (x0 : Int) (l1 : List SWindow) (x2 : Int) (x3 : Int) : Option Bool :=
  match opens.f K with
  | none => none
  | some r1 =>
    if r1 = true then
      match WindowsSupply.p0 x0 l1 x3 with
      | none => none
      | some (.inl _) =>
        match punctualsame_Lend_api_Window.f l1 (⟨(-9), 0⟩ : SWindow) with
        | none => none
        | some _ =>
          match punctualref_CheckFrame.f K x0 l1 with
          | none => none
          | some r3 =>
            match WindowsSupply.p1 K x0 l1 x2 r3 with
            | none => none
            | some (.inl _) =>
              match modes_Supply.f K x0 l1 x2 x3 with
              | none => none
              | some r7 =>
                match modes_Least.f K x0 l1 x3 with
                | none => none
                | some r8 =>
                  match WindowsSupply.p2 r3 with
                  | none => none
                  | some (.inl (z7, z8, z9, z10, z11, z12)) =>
                    match WindowsSupply.p3 K x0 l1 x2 x3 r3 z7 z8 z9 z10 z11 z12 with
                    | none => none
                    | some (.inl (z25, z26, z27, z28, z29, z30)) =>
                      if r7.1 = z25 then
                        if (SFault.eqb r7.2 (⟨z29, z30⟩ : SFault)) = true then
                          if r8.1 = z26 then
                            if (SFault.eqb r8.2 (⟨z27, z28⟩ : SFault)) = true then
                              match punctualsame_Still_api_Window.f K (l1 ++ [(⟨(-9), 0⟩ : SWindow), (⟨(-9), 0⟩ : SWindow), (⟨(-9), 0⟩ : SWindow)]) l1 (⟨(-9), 0⟩ : SWindow) with
                              | none => none
                              | some r11 =>
                                some r11
                            else
                              some false
                          else
                            some false
                        else
                          some false
                      else
                        some false
                    | some (.inr rr2) =>
                      some rr2
                  | some (.inr rr3) =>
                    some rr3
            | some (.inr rr4) =>
              some rr4
      | some (.inr rr5) =>
        some rr5
    else
      some false
abbrev WindowsSupply.A0 (K : Nat) (w0 : World) (x0 : Int) (l1 : List SWindow) (A1 : Option Addr) (c1 : Nat) (x2 : Int) (x3 : Int) (hR1 : RdL w0 A1 l1) (hL1 : l1.length ≤ c1) (hG0 : Glob w0 0 [.int .i64 (-9), .int .i64 0]) (r1 : Bool) (hc1 : r1 = true) : Unit → Act → World → Prop := fun (s : Unit) a w => St w0 w [] ∧ Frm 150 a [(0, .int .i64 x0), (1, .slice A1 l1.length c1), (2, .int .i64 x2), (3, .int .i64 x3)]
abbrev WindowsSupply.B0 (K : Nat) (w0 : World) (x0 : Int) (l1 : List SWindow) (A1 : Option Addr) (c1 : Nat) (x2 : Int) (x3 : Int) (hR1 : RdL w0 A1 l1) (hL1 : l1.length ≤ c1) (hG0 : Glob w0 0 [.int .i64 (-9), .int .i64 0]) (r1 : Bool) (hc1 : r1 = true) : Bool → Exit → Act → World → Prop := Rets Tryd.prog Tryd.f3 (WindowsSupply.Post w0)
theorem WindowsSupply_p0 (K : Nat) (w0 : World) (x0 : Int) (l1 : List SWindow) (A1 : Option Addr) (c1 : Nat) (x2 : Int) (x3 : Int) (hR1 : RdL w0 A1 l1) (hL1 : l1.length ≤ c1) (hG0 : Glob w0 0 [.int .i64 (-9), .int .i64 0]) (r1 : Bool) (hc1 : r1 = true) (o : Unit ⊕ Bool) (h : WindowsSupply.p0 x0 l1 x3 = some o) (w : World) (hS : St w0 w []) (Q : Exit → Act → World → Prop) (hQ : ∀ x a w, Outs (WindowsSupply.A0 K w0 x0 l1 A1 c1 x2 x3 hR1 hL1 hG0 r1 hc1) (WindowsSupply.B0 K w0 x0 l1 A1 c1 x2 x3 hR1 hL1 hG0 r1 hc1) o x a w → Q x a w) : WE Tryd.prog 150 (subF Tryd.f3 [1, 1, 0]) Q [(0, .int .i64 x0), (1, .slice A1 l1.length c1), (2, .int .i64 x2), (3, .int .i64 x3), (8, .bool false), (19, .bool r1), (20, .bool false)] w := by
  simp only [WindowsSupply.p0] at h
  refine we_seq fun K5 hK5 => ?_
  refine we_region [(0, 0), (1, 0), (2, 1), (3, 0), (4, 0), (5, 0), (6, 0), (7, 0), (8, 0), (9, 0), (10, 0), (11, 0), (12, 0), (13, 0), (14, 0), (15, 0), (16, 0), (17, 0), (18, 0), (19, 0)] rfl ?_
  refine ge_batch [0, 1] (ans := []) (vs := [(22, .int .i64 (l1.length : Int)), (21, .slice A1 l1.length c1)]) (l := []) (by kernel_rfl) trivial ?_
  refine ge_call (d := some 23) (f := 9) (args := #[.int .i64 (l1.length : Int)]) (by kernel_rfl) (few_ok (l1.length : Int) _ _ rfl) ?_
  rintro _ w2 ⟨rfl, hS3⟩
  refine ⟨_, rfl, hS3.below, ?_⟩
  have hS4 := hS.call hS3
  refine ge_batch [3, 4] (ans := []) (vs := [(25, .bool (!(few.f (l1.length : Int)))), (24, .bool (!(few.f (l1.length : Int))))]) (l := []) (by kernel_rfl) trivial ?_
  by_cases hc2 : (few.f (l1.length : Int)) = true
  · rw [if_pos hc2] at h
    refine ge_known (t := 25) (b := !(few.f (l1.length : Int))) (c := false) (by kernel_rfl) (congrArg (fun z => !z) hc2) ?_
    refine ge_batch [5, 6, 7] (ans := []) (vs := [(28, .bool (decide (x3 > 2000))), (27, .bool (decide (x3 > 2000))), (26, .int .i64 x3)]) (l := []) (by kernel_rfl) trivial ?_
    by_cases hc3 : x3 > 2000
    · rw [if_pos hc3] at h
      refine ge_known (t := 28) (b := decide (x3 > 2000)) (c := true) (by kernel_rfl) (decide_eq_true hc3) ?_
      refine ge_batch [8, 9, 10, 11, 12] (ans := []) (vs := [(33, .bool (decide (x3 ≤ 20000))), (32, .bool (decide (x3 ≤ 20000))), (31, .bool (decide (x3 ≤ 20000))), (30, .bool (decide (x3 ≤ 20000))), (29, .int .i64 x3)]) (l := []) (by kernel_rfl) trivial ?_
      by_cases hc4 : x3 ≤ 20000
      · rw [if_pos hc4] at h
        refine ge_known (t := 33) (b := decide (x3 ≤ 20000)) (c := true) (by kernel_rfl) (decide_eq_true hc4) ?_
        refine ge_batch [13, 14, 15, 16, 17, 18, 19] (ans := []) (vs := [(40, .bool true), (39, undef), (38, undef), (37, undef), (36, undef), (35, undef), (34, undef)]) (l := []) (by kernel_rfl) trivial ?_
        refine ge_nil fun a hF => hK5 _ _ ?_ a hF
        refine we_true (by kernel_rfl) ?_
        refine we_seq fun K6 hK6 => ?_
        refine we_region [(0, 0)] rfl ?_
        refine ge_batch [0] (ans := []) (vs := [(8, .bool true)]) (l := []) (by kernel_rfl) trivial ?_
        refine ge_nil fun a hF => hK6 _ _ ?_ a hF
        obtain rfl := Option.some.inj h
        exact we_ret fun a hF => hQ _ _ _ (Outs.out nofun ⟨rfl, (post_ret (rs := [.tmp 8]) (ans := []) (vs := [.bool true]) (l := []) rfl (by kernel_rfl) trivial ⟨rfl, hS4⟩) a hF⟩)
      · rw [if_neg hc4] at h
        refine ge_known (t := 33) (b := decide (x3 ≤ 20000)) (c := false) (by kernel_rfl) (decide_eq_false hc4) ?_
        refine ge_batch [13, 14, 15] (ans := []) (vs := [(36, .bool (decide (x0 > 2000))), (35, .bool (decide (x0 > 2000))), (34, .int .i64 x0)]) (l := []) (by kernel_rfl) trivial ?_
        by_cases hc5 : x0 > 2000
        · rw [if_pos hc5] at h
          refine ge_known (t := 36) (b := decide (x0 > 2000)) (c := true) (by kernel_rfl) (decide_eq_true hc5) ?_
          refine ge_batch [16, 17, 18, 19] (ans := []) (vs := [(40, .bool (decide (x0 ≤ 10000))), (39, .bool (decide (x0 ≤ 10000))), (38, .bool (decide (x0 ≤ 10000))), (37, .int .i64 x0)]) (l := []) (by kernel_rfl) trivial ?_
          refine ge_nil fun a hF => hK5 _ _ ?_ a hF
          by_cases hc6 : x0 ≤ 10000
          · rw [if_pos hc6] at h
            refine we_known (t := 40) (b := decide (x0 ≤ 10000)) (v := true) (by kernel_rfl) (decide_eq_true hc6) ?_
            refine we_true (by kernel_rfl) ?_
            refine we_seq fun K7 hK7 => ?_
            refine we_region [(0, 0)] rfl ?_
            refine ge_batch [0] (ans := []) (vs := [(8, .bool true)]) (l := []) (by kernel_rfl) trivial ?_
            refine ge_nil fun a hF => hK7 _ _ ?_ a hF
            obtain rfl := Option.some.inj h
            exact we_ret fun a hF => hQ _ _ _ (Outs.out nofun ⟨rfl, (post_ret (rs := [.tmp 8]) (ans := []) (vs := [.bool true]) (l := []) rfl (by kernel_rfl) trivial ⟨rfl, hS4⟩) a hF⟩)
          · rw [if_neg hc6] at h
            refine we_known (t := 40) (b := decide (x0 ≤ 10000)) (v := false) (by kernel_rfl) (decide_eq_false hc6) ?_
            refine we_false (by kernel_rfl) ?_
            obtain rfl := Option.some.inj h
            exact we_skip fun a hF => hQ _ _ _ (Outs.again ⟨hS4, hF.weaken ⟨by kernel_rfl, by kernel_rfl, by kernel_rfl, by kernel_rfl, trivial⟩⟩)
        · rw [if_neg hc5] at h
          refine ge_known (t := 36) (b := decide (x0 > 2000)) (c := false) (by kernel_rfl) (decide_eq_false hc5) ?_
          refine ge_batch [16, 17, 18, 19] (ans := []) (vs := [(40, .bool false), (39, .bool false), (38, undef), (37, undef)]) (l := []) (by kernel_rfl) trivial ?_
          refine ge_nil fun a hF => hK5 _ _ ?_ a hF
          refine we_false (by kernel_rfl) ?_
          obtain rfl := Option.some.inj h
          exact we_skip fun a hF => hQ _ _ _ (Outs.again ⟨hS4, hF.weaken ⟨by kernel_rfl, by kernel_rfl, by kernel_rfl, by kernel_rfl, trivial⟩⟩)
    · rw [if_neg hc3] at h
      refine ge_known (t := 28) (b := decide (x3 > 2000)) (c := false) (by kernel_rfl) (decide_eq_false hc3) ?_
      refine ge_batch [8, 9, 10, 11, 12, 13, 14, 15] (ans := []) (vs := [(36, .bool (decide (x0 > 2000))), (35, .bool (decide (x0 > 2000))), (34, .int .i64 x0), (33, .bool false), (32, .bool false), (31, .bool false), (30, undef), (29, undef)]) (l := []) (by kernel_rfl) trivial ?_
      by_cases hc7 : x0 > 2000
      · rw [if_pos hc7] at h
        refine ge_known (t := 36) (b := decide (x0 > 2000)) (c := true) (by kernel_rfl) (decide_eq_true hc7) ?_
        refine ge_batch [16, 17, 18, 19] (ans := []) (vs := [(40, .bool (decide (x0 ≤ 10000))), (39, .bool (decide (x0 ≤ 10000))), (38, .bool (decide (x0 ≤ 10000))), (37, .int .i64 x0)]) (l := []) (by kernel_rfl) trivial ?_
        refine ge_nil fun a hF => hK5 _ _ ?_ a hF
        by_cases hc8 : x0 ≤ 10000
        · rw [if_pos hc8] at h
          refine we_known (t := 40) (b := decide (x0 ≤ 10000)) (v := true) (by kernel_rfl) (decide_eq_true hc8) ?_
          refine we_true (by kernel_rfl) ?_
          refine we_seq fun K8 hK8 => ?_
          refine we_region [(0, 0)] rfl ?_
          refine ge_batch [0] (ans := []) (vs := [(8, .bool true)]) (l := []) (by kernel_rfl) trivial ?_
          refine ge_nil fun a hF => hK8 _ _ ?_ a hF
          obtain rfl := Option.some.inj h
          exact we_ret fun a hF => hQ _ _ _ (Outs.out nofun ⟨rfl, (post_ret (rs := [.tmp 8]) (ans := []) (vs := [.bool true]) (l := []) rfl (by kernel_rfl) trivial ⟨rfl, hS4⟩) a hF⟩)
        · rw [if_neg hc8] at h
          refine we_known (t := 40) (b := decide (x0 ≤ 10000)) (v := false) (by kernel_rfl) (decide_eq_false hc8) ?_
          refine we_false (by kernel_rfl) ?_
          obtain rfl := Option.some.inj h
          exact we_skip fun a hF => hQ _ _ _ (Outs.again ⟨hS4, hF.weaken ⟨by kernel_rfl, by kernel_rfl, by kernel_rfl, by kernel_rfl, trivial⟩⟩)
      · rw [if_neg hc7] at h
        refine ge_known (t := 36) (b := decide (x0 > 2000)) (c := false) (by kernel_rfl) (decide_eq_false hc7) ?_
        refine ge_batch [16, 17, 18, 19] (ans := []) (vs := [(40, .bool false), (39, .bool false), (38, undef), (37, undef)]) (l := []) (by kernel_rfl) trivial ?_
        refine ge_nil fun a hF => hK5 _ _ ?_ a hF
        refine we_false (by kernel_rfl) ?_
        obtain rfl := Option.some.inj h
        exact we_skip fun a hF => hQ _ _ _ (Outs.again ⟨hS4, hF.weaken ⟨by kernel_rfl, by kernel_rfl, by kernel_rfl, by kernel_rfl, trivial⟩⟩)
  · rw [if_neg hc2] at h
    refine ge_known (t := 25) (b := !(few.f (l1.length : Int))) (c := true) (by kernel_rfl) (congrArg (fun z => !z) (Bool.eq_false_iff.2 hc2)) ?_
    refine ge_batch [5, 6, 7, 8, 9, 10, 11, 12, 13, 14, 15, 16, 17, 18, 19] (ans := []) (vs := [(40, .bool true), (39, undef), (38, undef), (37, undef), (36, undef), (35, undef), (34, undef), (33, .bool true), (32, .bool true), (31, undef), (30, undef), (29, undef), (28, undef), (27, undef), (26, undef)]) (l := []) (by kernel_rfl) trivial ?_
    refine ge_nil fun a hF => hK5 _ _ ?_ a hF
    refine we_true (by kernel_rfl) ?_
    refine we_seq fun K9 hK9 => ?_
    refine we_region [(0, 0)] rfl ?_
    refine ge_batch [0] (ans := []) (vs := [(8, .bool true)]) (l := []) (by kernel_rfl) trivial ?_
    refine ge_nil fun a hF => hK9 _ _ ?_ a hF
    obtain rfl := Option.some.inj h
    exact we_ret fun a hF => hQ _ _ _ (Outs.out nofun ⟨rfl, (post_ret (rs := [.tmp 8]) (ans := []) (vs := [.bool true]) (l := []) rfl (by kernel_rfl) trivial ⟨rfl, hS4⟩) a hF⟩)
abbrev WindowsSupply.A1 (K : Nat) (w0 : World) (x0 : Int) (l1 : List SWindow) (A1 : Option Addr) (c1 : Nat) (x2 : Int) (x3 : Int) (hR1 : RdL w0 A1 l1) (hL1 : l1.length ≤ c1) (hG0 : Glob w0 0 [.int .i64 (-9), .int .i64 0]) (r1 : Bool) (hc1 : r1 = true) (Z1 : Option Addr) (cz1 : Nat) (hcp1 : (l1 ++ [(⟨(-9), 0⟩ : SWindow), (⟨(-9), 0⟩ : SWindow), (⟨(-9), 0⟩ : SWindow)]).length ≤ cz1) (r3 : SFault) (b1 : Nat) : Unit → Act → World → Prop := fun (s : Unit) a w => St w0 w [Own.blk b1 (.cells #[.int .i64 r3.Code, .int .i64 r3.At] 30 (0, 0)), Own.of (.slice Z1 (l1 ++ [(⟨(-9), 0⟩ : SWindow), (⟨(-9), 0⟩ : SWindow), (⟨(-9), 0⟩ : SWindow)]).length cz1) 27 (l1 ++ [(⟨(-9), 0⟩ : SWindow), (⟨(-9), 0⟩ : SWindow), (⟨(-9), 0⟩ : SWindow)])] ∧ Frm 150 a [(0, .int .i64 x0), (1, .slice A1 l1.length c1), (2, .int .i64 x2), (3, .int .i64 x3), (9, .slice Z1 l1.length cz1), (10, .pointer (some ⟨b1, 0, none⟩))]
abbrev WindowsSupply.B1 (K : Nat) (w0 : World) (x0 : Int) (l1 : List SWindow) (A1 : Option Addr) (c1 : Nat) (x2 : Int) (x3 : Int) (hR1 : RdL w0 A1 l1) (hL1 : l1.length ≤ c1) (hG0 : Glob w0 0 [.int .i64 (-9), .int .i64 0]) (r1 : Bool) (hc1 : r1 = true) (Z1 : Option Addr) (cz1 : Nat) (hcp1 : (l1 ++ [(⟨(-9), 0⟩ : SWindow), (⟨(-9), 0⟩ : SWindow), (⟨(-9), 0⟩ : SWindow)]).length ≤ cz1) (r3 : SFault) (b1 : Nat) : Bool → Exit → Act → World → Prop := Rets Tryd.prog Tryd.f3 (WindowsSupply.Post w0)
theorem WindowsSupply_p1 (K : Nat) (w0 : World) (x0 : Int) (l1 : List SWindow) (A1 : Option Addr) (c1 : Nat) (x2 : Int) (x3 : Int) (hR1 : RdL w0 A1 l1) (hL1 : l1.length ≤ c1) (hG0 : Glob w0 0 [.int .i64 (-9), .int .i64 0]) (r1 : Bool) (hc1 : r1 = true) (Z1 : Option Addr) (cz1 : Nat) (hcp1 : (l1 ++ [(⟨(-9), 0⟩ : SWindow), (⟨(-9), 0⟩ : SWindow), (⟨(-9), 0⟩ : SWindow)]).length ≤ cz1) (r3 : SFault) (b1 : Nat) (o : Unit ⊕ Bool) (h : WindowsSupply.p1 K x0 l1 x2 r3 = some o) (w : World) (hS : St w0 w [Own.blk b1 (.cells #[.int .i64 r3.Code, .int .i64 r3.At] 30 (0, 0)), Own.of (.slice Z1 (l1 ++ [(⟨(-9), 0⟩ : SWindow), (⟨(-9), 0⟩ : SWindow), (⟨(-9), 0⟩ : SWindow)]).length cz1) 27 (l1 ++ [(⟨(-9), 0⟩ : SWindow), (⟨(-9), 0⟩ : SWindow), (⟨(-9), 0⟩ : SWindow)])]) (Q : Exit → Act → World → Prop) (hQ : ∀ x a w, Outs (WindowsSupply.A1 K w0 x0 l1 A1 c1 x2 x3 hR1 hL1 hG0 r1 hc1 Z1 cz1 hcp1 r3 b1) (WindowsSupply.B1 K w0 x0 l1 A1 c1 x2 x3 hR1 hL1 hG0 r1 hc1 Z1 cz1 hcp1 r3 b1) o x a w → Q x a w) : WE Tryd.prog 150 (subF Tryd.f3 [1, 1, 1, 1, 1, 0]) Q [(0, .int .i64 x0), (1, .slice A1 l1.length c1), (2, .int .i64 x2), (3, .int .i64 x3), (9, .slice Z1 l1.length cz1), (10, .pointer (some ⟨b1, 0, none⟩)), (41, .slice A1 l1.length c1), (42, .agg #[.int .i64 (-9), .int .i64 0]), (43, .slice Z1 l1.length cz1), (44, .int .i64 x0), (45, .slice A1 l1.length c1), (46, .agg #[.int .i64 r3.Code, .int .i64 r3.At])] w := by
  simp only [WindowsSupply.p1] at h
  refine we_seq fun K13 hK13 => ?_
  refine we_draws (by kernel_rfl) [(0, 0), (1, 0), (3, 0), (2, 1), (4, 0), (5, 0), (6, 0), (7, 0), (8, 0), (10, 0), (11, 0), (12, 0), (9, 1), (13, 0), (14, 0), (15, 0), (16, 0), (17, 0), (18, 0), (19, 0), (20, 0), (21, 1), (22, 0), (23, 0), (24, 0)] (by kernel_rfl) ?_
  have hS13 := hS.drew
  rcases hq6 : modes_Frame.f K x0 l1 with _ | r4
  · rw [hq6] at h; cases h
  rw [hq6] at h
  simp only [] at h
  refine ge_batch [0, 1, 3] (ans := [.val (.int .i64 r3.Code), .val (.int .i64 r3.At)]) (vs := [(50, .agg #[.int .i64 r3.Code, .int .i64 r3.At]), (48, .slice Z1 l1.length cz1), (47, .int .i64 x0)]) (l := [.loaded ⟨b1, 0, none⟩ (.int .i64 r3.Code), .loaded ⟨b1, 1, none⟩ (.int .i64 r3.At)]) (by kernel_rfl) ⟨hS13.cell 0 rfl rfl, hS13.cell 0 rfl rfl, trivial⟩ ?_
  refine ge_call (d := some 49) (f := 12) (args := #[.int .i64 x0, .slice Z1 l1.length cz1]) (by kernel_rfl) (modes_Frame_ok K x0 l1 Z1 cz1 _ ((hS13.rdAt 1 rfl).pre) (by have h0 := hcp1; simp only [List.length_append, List.length_cons, List.length_nil] at h0; omega) _ hq6) ?_
  rintro _ w8 ⟨rfl, hS14⟩
  refine ⟨_, rfl, hS14.below, ?_⟩
  have hS15 := hS13.call hS14
  refine ge_eqs (d := 51) (ty := 4) (op := .neq) (x := (.tmp 49)) (y := (.tmp 50)) (t := 30) (t2 := 30) (xs := #[.int .i64 r4.Code, .int .i64 r4.At]) (ys := #[.int .i64 r3.Code, .int .i64 r3.At]) (r := (SFault.eqb r4 r3)) (v := !(SFault.eqb r4 r3)) (by kernel_rfl) (by kernel_rfl) (by kernel_rfl) (by kernel_rfl) (by kernel_rfl) rfl ?_
  refine ge_batch [5] (ans := []) (vs := [(52, .bool (!(SFault.eqb r4 r3)))]) (l := []) (by kernel_rfl) trivial ?_
  by_cases hc9 : (SFault.eqb r4 r3) = true
  · rw [if_pos hc9] at h
    refine ge_known (t := 52) (b := !(SFault.eqb r4 r3)) (c := false) (by kernel_rfl) (congrArg (fun z => !z) hc9) ?_
    rcases hq7 : modes_Open.f K x0 l1 x2 with _ | r5
    · rw [hq7] at h; cases h
    rw [hq7] at h
    simp only [] at h
    refine ge_batch [6, 7, 8, 10, 11, 12] (ans := [.val (.int .i64 r3.Code)]) (vs := [(59, .bool (r3.Code == 0)), (58, .int .i64 r3.Code), (57, .pointer (some ⟨b1, 0, none⟩)), (55, .int .i64 x2), (54, .slice Z1 l1.length cz1), (53, .int .i64 x0)]) (l := [.loaded ⟨b1, 0, none⟩ (.int .i64 r3.Code)]) (by kernel_rfl) ⟨hS15.cell 0 rfl rfl, trivial⟩ ?_
    refine ge_call (d := some 56) (f := 13) (args := #[.int .i64 x0, .slice Z1 l1.length cz1, .int .i64 x2]) (by kernel_rfl) (modes_Open_ok K x0 l1 Z1 cz1 x2 _ ((hS15.rdAt 1 rfl).pre) (by have h0 := hcp1; simp only [List.length_append, List.length_cons, List.length_nil] at h0; omega) _ hq7) ?_
    rintro _ w9 ⟨rfl, hS16⟩
    refine ⟨_, rfl, hS16.below, ?_⟩
    have hS17 := hS15.call hS16
    refine ge_batch [13] (ans := []) (vs := [(60, .bool (r3.Code == 0))]) (l := []) (by kernel_rfl) trivial ?_
    by_cases hc10 : r3.Code = 0
    · rw [if_pos hc10] at h
      refine ge_known (t := 60) (b := (r3.Code == 0)) (c := true) (by kernel_rfl) (beq_iff_eq.2 hc10) ?_
      refine ge_batch [14, 15, 16, 17] (ans := []) (vs := [(64, .bool (decide (x2 ≥ 0))), (63, .bool (decide (x2 ≥ 0))), (62, .bool (decide (x2 ≥ 0))), (61, .int .i64 x2)]) (l := []) (by kernel_rfl) trivial ?_
      by_cases hc11 : x2 ≥ 0
      · rw [if_pos hc11] at h
        refine ge_known (t := 64) (b := decide (x2 ≥ 0)) (c := true) (by kernel_rfl) (decide_eq_true hc11) ?_
        rcases hq8 : punctualref_There.f K x0 l1 x2 with _ | r6
        · rw [hq8] at h; cases h
        rw [hq8] at h
        simp only [] at h
        refine ge_batch [18, 19, 20] (ans := []) (vs := [(67, .int .i64 x2), (66, .slice A1 l1.length c1), (65, .int .i64 x0)]) (l := []) (by kernel_rfl) trivial ?_
        refine ge_call (d := some 68) (f := 14) (args := #[.int .i64 x0, .slice A1 l1.length c1, .int .i64 x2]) (by kernel_rfl) (punctualref_There_ok K x0 l1 A1 c1 x2 _ (hS17.rd hR1) hL1 _ hq8) ?_
        rintro _ w10 ⟨rfl, hS18⟩
        refine ⟨_, rfl, hS18.below, ?_⟩
        have hS19 := hS17.call hS18
        refine ge_batch [22, 23, 24] (ans := []) (vs := [(71, .bool (r5 != r6)), (70, .bool (r5 != r6)), (69, .bool r6)]) (l := []) (by kernel_rfl) trivial ?_
        refine ge_nil fun a hF => hK13 _ _ ?_ a hF
        by_cases hc12 : r5 = r6
        · rw [if_pos hc12] at h
          refine we_known (t := 71) (b := (r5 != r6)) (v := false) (by kernel_rfl) (bne_eq_false_iff_eq.2 hc12) ?_
          refine we_false (by kernel_rfl) ?_
          have hS20 := hS19.bring 1 rfl
          have hS21 := hS20.bring 1 rfl
          obtain rfl := Option.some.inj h
          exact we_skip fun a hF => hQ _ _ _ (Outs.again ⟨hS21, hF.weaken ⟨by kernel_rfl, by kernel_rfl, by kernel_rfl, by kernel_rfl, by kernel_rfl, by kernel_rfl, trivial⟩⟩)
        · rw [if_neg hc12] at h
          refine we_known (t := 71) (b := (r5 != r6)) (v := true) (by kernel_rfl) (bne_iff_ne.2 hc12) ?_
          refine we_true (by kernel_rfl) ?_
          refine we_seq fun K14 hK14 => ?_
          refine we_region [(0, 0)] rfl ?_
          refine ge_batch [0] (ans := []) (vs := [(8, .bool false)]) (l := []) (by kernel_rfl) trivial ?_
          refine ge_nil fun a hF => hK14 _ _ ?_ a hF
          have hS22 := hS19.takeN 0
          obtain rfl := Option.some.inj h
          exact we_ret fun a hF => hQ _ _ _ (Outs.out nofun ⟨rfl, (post_ret (rs := [.tmp 8]) (ans := []) (vs := [.bool false]) (l := []) rfl (by kernel_rfl) trivial ⟨rfl, hS22⟩) a hF⟩)
      · rw [if_neg hc11] at h
        refine ge_known (t := 64) (b := decide (x2 ≥ 0)) (c := false) (by kernel_rfl) (decide_eq_false hc11) ?_
        refine ge_batch [18, 19, 20] (ans := []) (vs := [(67, undef), (66, undef), (65, undef)]) (l := []) (by kernel_rfl) trivial ?_
        refine ge_off rfl rfl rfl (by kernel_rfl) ?_
        refine ge_batch [22, 23, 24] (ans := []) (vs := [(71, .bool (r5 != false)), (70, .bool (r5 != false)), (69, .bool false)]) (l := []) (by kernel_rfl) trivial ?_
        refine ge_nil fun a hF => hK13 _ _ ?_ a hF
        by_cases hc13 : r5 = false
        · rw [if_pos hc13] at h
          refine we_known (t := 71) (b := (r5 != false)) (v := false) (by kernel_rfl) (bne_eq_false_iff_eq.2 hc13) ?_
          refine we_false (by kernel_rfl) ?_
          have hS23 := hS17.bring 1 rfl
          have hS24 := hS23.bring 1 rfl
          obtain rfl := Option.some.inj h
          exact we_skip fun a hF => hQ _ _ _ (Outs.again ⟨hS24, hF.weaken ⟨by kernel_rfl, by kernel_rfl, by kernel_rfl, by kernel_rfl, by kernel_rfl, by kernel_rfl, trivial⟩⟩)
        · rw [if_neg hc13] at h
          refine we_known (t := 71) (b := (r5 != false)) (v := true) (by kernel_rfl) (bne_iff_ne.2 hc13) ?_
          refine we_true (by kernel_rfl) ?_
          refine we_seq fun K15 hK15 => ?_
          refine we_region [(0, 0)] rfl ?_
          refine ge_batch [0] (ans := []) (vs := [(8, .bool false)]) (l := []) (by kernel_rfl) trivial ?_
          refine ge_nil fun a hF => hK15 _ _ ?_ a hF
          have hS25 := hS17.takeN 0
          obtain rfl := Option.some.inj h
          exact we_ret fun a hF => hQ _ _ _ (Outs.out nofun ⟨rfl, (post_ret (rs := [.tmp 8]) (ans := []) (vs := [.bool false]) (l := []) rfl (by kernel_rfl) trivial ⟨rfl, hS25⟩) a hF⟩)
    · rw [if_neg hc10] at h
      refine ge_known (t := 60) (b := (r3.Code == 0)) (c := false) (by kernel_rfl) (beq_eq_false_iff_ne.2 hc10) ?_
      refine ge_batch [14, 15, 16, 17, 18, 19, 20] (ans := []) (vs := [(67, undef), (66, undef), (65, undef), (64, .bool false), (63, .bool false), (62, undef), (61, undef)]) (l := []) (by kernel_rfl) trivial ?_
      refine ge_off rfl rfl rfl (by kernel_rfl) ?_
      refine ge_batch [22, 23, 24] (ans := []) (vs := [(71, .bool (r5 != false)), (70, .bool (r5 != false)), (69, .bool false)]) (l := []) (by kernel_rfl) trivial ?_
      refine ge_nil fun a hF => hK13 _ _ ?_ a hF
      by_cases hc14 : r5 = false
      · rw [if_pos hc14] at h
        refine we_known (t := 71) (b := (r5 != false)) (v := false) (by kernel_rfl) (bne_eq_false_iff_eq.2 hc14) ?_
        refine we_false (by kernel_rfl) ?_
        have hS26 := hS17.bring 1 rfl
        have hS27 := hS26.bring 1 rfl
        obtain rfl := Option.some.inj h
        exact we_skip fun a hF => hQ _ _ _ (Outs.again ⟨hS27, hF.weaken ⟨by kernel_rfl, by kernel_rfl, by kernel_rfl, by kernel_rfl, by kernel_rfl, by kernel_rfl, trivial⟩⟩)
      · rw [if_neg hc14] at h
        refine we_known (t := 71) (b := (r5 != false)) (v := true) (by kernel_rfl) (bne_iff_ne.2 hc14) ?_
        refine we_true (by kernel_rfl) ?_
        refine we_seq fun K16 hK16 => ?_
        refine we_region [(0, 0)] rfl ?_
        refine ge_batch [0] (ans := []) (vs := [(8, .bool false)]) (l := []) (by kernel_rfl) trivial ?_
        refine ge_nil fun a hF => hK16 _ _ ?_ a hF
        have hS28 := hS17.takeN 0
        obtain rfl := Option.some.inj h
        exact we_ret fun a hF => hQ _ _ _ (Outs.out nofun ⟨rfl, (post_ret (rs := [.tmp 8]) (ans := []) (vs := [.bool false]) (l := []) rfl (by kernel_rfl) trivial ⟨rfl, hS28⟩) a hF⟩)
  · rw [if_neg hc9] at h
    refine ge_known (t := 52) (b := !(SFault.eqb r4 r3)) (c := true) (by kernel_rfl) (congrArg (fun z => !z) (Bool.eq_false_iff.2 hc9)) ?_
    refine ge_batch [6, 7, 8, 10, 11, 12] (ans := []) (vs := [(59, undef), (58, undef), (57, undef), (55, undef), (54, undef), (53, undef)]) (l := []) (by kernel_rfl) trivial ?_
    refine ge_off rfl rfl rfl (by kernel_rfl) ?_
    refine ge_batch [13, 14, 15, 16, 17, 18, 19, 20] (ans := []) (vs := [(67, undef), (66, undef), (65, undef), (64, undef), (63, undef), (62, undef), (61, undef), (60, undef)]) (l := []) (by kernel_rfl) trivial ?_
    refine ge_off rfl rfl rfl (by kernel_rfl) ?_
    refine ge_batch [22, 23, 24] (ans := []) (vs := [(71, .bool true), (70, undef), (69, undef)]) (l := []) (by kernel_rfl) trivial ?_
    refine ge_nil fun a hF => hK13 _ _ ?_ a hF
    refine we_true (by kernel_rfl) ?_
    refine we_seq fun K17 hK17 => ?_
    refine we_region [(0, 0)] rfl ?_
    refine ge_batch [0] (ans := []) (vs := [(8, .bool false)]) (l := []) (by kernel_rfl) trivial ?_
    refine ge_nil fun a hF => hK17 _ _ ?_ a hF
    have hS29 := hS15.takeN 0
    obtain rfl := Option.some.inj h
    exact we_ret fun a hF => hQ _ _ _ (Outs.out nofun ⟨rfl, (post_ret (rs := [.tmp 8]) (ans := []) (vs := [.bool false]) (l := []) rfl (by kernel_rfl) trivial ⟨rfl, hS29⟩) a hF⟩)
abbrev WindowsSupply.A2 (K : Nat) (w0 : World) (x0 : Int) (l1 : List SWindow) (A1 : Option Addr) (c1 : Nat) (x2 : Int) (x3 : Int) (hR1 : RdL w0 A1 l1) (hL1 : l1.length ≤ c1) (hG0 : Glob w0 0 [.int .i64 (-9), .int .i64 0]) (r1 : Bool) (hc1 : r1 = true) (Z1 : Option Addr) (cz1 : Nat) (hcp1 : (l1 ++ [(⟨(-9), 0⟩ : SWindow), (⟨(-9), 0⟩ : SWindow), (⟨(-9), 0⟩ : SWindow)]).length ≤ cz1) (r3 : SFault) (b1 : Nat) (r7 : Int × SFault) (b2 : Nat) (r8 : Int × SFault) (b3 : Nat) : (Int × Int × Int × Int × Int × Int) → Act → World → Prop := fun (s : Int × Int × Int × Int × Int × Int) a w => ∃ (b4 : Nat) (b5 : Nat), St w0 w [Own.blk b4 (.cells #[.int .i64 s.2.2.1, .int .i64 s.2.2.2.1] 30 (0, 0)), Own.blk b5 (.cells #[.int .i64 s.2.2.2.2.1, .int .i64 s.2.2.2.2.2] 30 (0, 0)), Own.blk b3 (.cells #[.int .i64 r8.2.Code, .int .i64 r8.2.At] 30 (0, 0)), Own.blk b2 (.cells #[.int .i64 r7.2.Code, .int .i64 r7.2.At] 30 (0, 0)), Own.blk b1 (.cells #[.int .i64 r3.Code, .int .i64 r3.At] 30 (0, 0)), Own.of (.slice Z1 (l1 ++ [(⟨(-9), 0⟩ : SWindow), (⟨(-9), 0⟩ : SWindow), (⟨(-9), 0⟩ : SWindow)]).length cz1) 27 (l1 ++ [(⟨(-9), 0⟩ : SWindow), (⟨(-9), 0⟩ : SWindow), (⟨(-9), 0⟩ : SWindow)])] ∧ Frm 150 a [(0, .int .i64 x0), (1, .slice A1 l1.length c1), (2, .int .i64 x2), (3, .int .i64 x3), (9, .slice Z1 l1.length cz1), (10, .pointer (some ⟨b1, 0, none⟩)), (11, .int .i64 r7.1), (12, .pointer (some ⟨b2, 0, none⟩)), (13, .int .i64 r8.1), (14, .pointer (some ⟨b3, 0, none⟩)), (15, .int .i64 s.1), (16, .int .i64 s.2.1), (17, .pointer (some ⟨b4, 0, none⟩)), (18, .pointer (some ⟨b5, 0, none⟩))]
abbrev WindowsSupply.B2 (K : Nat) (w0 : World) (x0 : Int) (l1 : List SWindow) (A1 : Option Addr) (c1 : Nat) (x2 : Int) (x3 : Int) (hR1 : RdL w0 A1 l1) (hL1 : l1.length ≤ c1) (hG0 : Glob w0 0 [.int .i64 (-9), .int .i64 0]) (r1 : Bool) (hc1 : r1 = true) (Z1 : Option Addr) (cz1 : Nat) (hcp1 : (l1 ++ [(⟨(-9), 0⟩ : SWindow), (⟨(-9), 0⟩ : SWindow), (⟨(-9), 0⟩ : SWindow)]).length ≤ cz1) (r3 : SFault) (b1 : Nat) (r7 : Int × SFault) (b2 : Nat) (r8 : Int × SFault) (b3 : Nat) : Bool → Exit → Act → World → Prop := Rets Tryd.prog Tryd.f3 (WindowsSupply.Post w0)
theorem WindowsSupply_p2 (K : Nat) (w0 : World) (x0 : Int) (l1 : List SWindow) (A1 : Option Addr) (c1 : Nat) (x2 : Int) (x3 : Int) (hR1 : RdL w0 A1 l1) (hL1 : l1.length ≤ c1) (hG0 : Glob w0 0 [.int .i64 (-9), .int .i64 0]) (r1 : Bool) (hc1 : r1 = true) (Z1 : Option Addr) (cz1 : Nat) (hcp1 : (l1 ++ [(⟨(-9), 0⟩ : SWindow), (⟨(-9), 0⟩ : SWindow), (⟨(-9), 0⟩ : SWindow)]).length ≤ cz1) (r3 : SFault) (b1 : Nat) (r7 : Int × SFault) (b2 : Nat) (r8 : Int × SFault) (b3 : Nat) (o : (Int × Int × Int × Int × Int × Int) ⊕ Bool) (h : WindowsSupply.p2 r3 = some o) (w : World) (hS : St w0 w [Own.blk b3 (.cells #[.int .i64 r8.2.Code, .int .i64 r8.2.At] 30 (0, 0)), Own.blk b2 (.cells #[.int .i64 r7.2.Code, .int .i64 r7.2.At] 30 (0, 0)), Own.blk b1 (.cells #[.int .i64 r3.Code, .int .i64 r3.At] 30 (0, 0)), Own.of (.slice Z1 (l1 ++ [(⟨(-9), 0⟩ : SWindow), (⟨(-9), 0⟩ : SWindow), (⟨(-9), 0⟩ : SWindow)]).length cz1) 27 (l1 ++ [(⟨(-9), 0⟩ : SWindow), (⟨(-9), 0⟩ : SWindow), (⟨(-9), 0⟩ : SWindow)])]) (Q : Exit → Act → World → Prop) (hQ : ∀ x a w, Outs (WindowsSupply.A2 K w0 x0 l1 A1 c1 x2 x3 hR1 hL1 hG0 r1 hc1 Z1 cz1 hcp1 r3 b1 r7 b2 r8 b3) (WindowsSupply.B2 K w0 x0 l1 A1 c1 x2 x3 hR1 hL1 hG0 r1 hc1 Z1 cz1 hcp1 r3 b1 r7 b2 r8 b3) o x a w → Q x a w) : WE Tryd.prog 150 (subF Tryd.f3 [1, 1, 1, 1, 1, 1, 1, 1, 0]) Q [(0, .int .i64 x0), (1, .slice A1 l1.length c1), (2, .int .i64 x2), (3, .int .i64 x3), (9, .slice Z1 l1.length cz1), (10, .pointer (some ⟨b1, 0, none⟩)), (11, .int .i64 r7.1), (12, .pointer (some ⟨b2, 0, none⟩)), (13, .int .i64 r8.1), (14, .pointer (some ⟨b3, 0, none⟩)), (72, .tuple #[.int .i64 r7.1, .agg #[.int .i64 r7.2.Code, .int .i64 r7.2.At]]), (73, .int .i64 x0), (74, .slice Z1 l1.length cz1), (75, .int .i64 x2), (76, .int .i64 x3), (77, .tuple #[.int .i64 r7.1, .agg #[.int .i64 r7.2.Code, .int .i64 r7.2.At]]), (78, .int .i64 r7.1), (79, .agg #[.int .i64 r7.2.Code, .int .i64 r7.2.At]), (80, .tuple #[.int .i64 r8.1, .agg #[.int .i64 r8.2.Code, .int .i64 r8.2.At]]), (81, .int .i64 x0), (82, .slice Z1 l1.length cz1), (83, .int .i64 x3), (84, .tuple #[.int .i64 r8.1, .agg #[.int .i64 r8.2.Code, .int .i64 r8.2.At]]), (85, .int .i64 r8.1), (86, .agg #[.int .i64 r8.2.Code, .int .i64 r8.2.At])] w := by
  simp only [WindowsSupply.p2] at h
  refine we_orders2 (by kernel_rfl) [(0, [⟨b1, 0, none⟩, ⟨b1, 1, none⟩]), (1, [⟨b1, 0, none⟩, ⟨b1, 1, none⟩])] (.vals [0] (.vals [1] (.alt 2 1 (.alt 3 1 (.vals [4] (.vals [5] (.alt 6 2 (.alt 7 2 .fin .nomore) .nomore))) .nomore) (.alt 3 1 (.alt 2 1 (.vals [4] (.vals [5] (.alt 6 2 (.alt 7 2 .fin .nomore) .nomore))) .nomore) .nomore)))) (by kernel_rfl) ?_
  have hS41 := hS.drew
  refine go2_batch [0] (ans := [.val (.int .i64 r3.Code), .val (.int .i64 r3.At)]) (vs := [(87, .agg #[.int .i64 r3.Code, .int .i64 r3.At])]) (l := [.loaded ⟨b1, 0, none⟩ (.int .i64 r3.Code), .loaded ⟨b1, 1, none⟩ (.int .i64 r3.At)]) (by kernel_rfl) ⟨hS41.cell 2 rfl rfl, hS41.cell 2 rfl rfl, trivial⟩ (mem_one (by kernel_rfl)) ?_
  refine go2_batch [1] (ans := [.val (.int .i64 r3.Code), .val (.int .i64 r3.At)]) (vs := [(88, .agg #[.int .i64 r3.Code, .int .i64 r3.At])]) (l := [.loaded ⟨b1, 0, none⟩ (.int .i64 r3.Code), .loaded ⟨b1, 1, none⟩ (.int .i64 r3.At)]) (by kernel_rfl) ⟨hS41.cell 2 rfl rfl, hS41.cell 2 rfl rfl, trivial⟩ (mem_one (by kernel_rfl)) ?_
  refine go_alt2 (fun KK hKK => ?_) ?_
  · refine ge_one2 ?_
    refine ge_new (d := some 17) (o := .cells #[.int .i64 0, .int .i64 0] 30) (v := fun b => .pointer (some ⟨b, 0, none⟩)) hS41 (fun b => by kernel_rfl) fun b6 w18 hx4 hS42 => ?_
    refine ge_nil fun a hF => hKK _ _ (RS.of2 (l := [.loaded ⟨b1, 0, none⟩ (.int .i64 r3.Code), .loaded ⟨b1, 1, none⟩ (.int .i64 r3.At), .loaded ⟨b1, 0, none⟩ (.int .i64 r3.Code), .loaded ⟨b1, 1, none⟩ (.int .i64 r3.At)]) (by kernel_rfl) ⟨hS41.cell 2 rfl rfl, hS41.cell 2 rfl rfl, hS41.cell 2 rfl rfl, hS41.cell 2 rfl rfl, trivial⟩ ⟨hS42.cell 3 rfl rfl, hS42.cell 3 rfl rfl, hS42.cell 3 rfl rfl, hS42.cell 3 rfl rfl, trivial⟩) ?_ a hF
    refine go_alt2 (fun KK hKK => ?_) ?_
    · refine ge_one2 ?_
      refine ge_new (d := some 18) (o := .cells #[.int .i64 0, .int .i64 0] 30) (v := fun b => .pointer (some ⟨b, 0, none⟩)) hS42 (fun b => by kernel_rfl) fun b7 w19 hx5 hS43 => ?_
      refine ge_nil fun a hF => hKK _ _ (RS.of2 (l := [.loaded ⟨b1, 0, none⟩ (.int .i64 r3.Code), .loaded ⟨b1, 1, none⟩ (.int .i64 r3.At), .loaded ⟨b1, 0, none⟩ (.int .i64 r3.Code), .loaded ⟨b1, 1, none⟩ (.int .i64 r3.At)]) (by kernel_rfl) ⟨hS42.cell 3 rfl rfl, hS42.cell 3 rfl rfl, hS42.cell 3 rfl rfl, hS42.cell 3 rfl rfl, trivial⟩ ⟨hS43.cell 4 rfl rfl, hS43.cell 4 rfl rfl, hS43.cell 4 rfl rfl, hS43.cell 4 rfl rfl, trivial⟩) ?_ a hF
      refine go2_batch [4, 5] (ans := []) (vs := [(16, .int .i64 0), (15, .int .i64 0)]) (l := []) (by kernel_rfl) trivial mem_nil ?_
      refine go_alt2 (fun KK hKK => ?_) ?_
      · have hS44 := hS43.bring 1 rfl
        refine ge_set (b := b6) (j := 0) (cs := #[.int .i64 0, .int .i64 0]) (t := 30) (vs := [.int .i64 r3.Code, .int .i64 r3.At]) hS44 (by kernel_rfl) rfl rfl fun w20 hS45 => ?_
        have hS46 : St w0 w20 [Own.blk b6 (.cells #[.int .i64 r3.Code, .int .i64 r3.At] 30 (0, 0)), Own.blk b7 (.cells #[.int .i64 0, .int .i64 0] 30 (0, 0)), Own.blk b3 (.cells #[.int .i64 r8.2.Code, .int .i64 r8.2.At] 30 (0, 0)), Own.blk b2 (.cells #[.int .i64 r7.2.Code, .int .i64 r7.2.At] 30 (0, 0)), Own.blk b1 (.cells #[.int .i64 r3.Code, .int .i64 r3.At] 30 (0, 0)), Own.of (.slice Z1 (l1 ++ [(⟨(-9), 0⟩ : SWindow), (⟨(-9), 0⟩ : SWindow), (⟨(-9), 0⟩ : SWindow)]).length cz1) 27 (l1 ++ [(⟨(-9), 0⟩ : SWindow), (⟨(-9), 0⟩ : SWindow), (⟨(-9), 0⟩ : SWindow)])] := hS45
        refine ge_nil fun a hF => hKK _ _ (RS.of2 (l := [.loaded ⟨b1, 0, none⟩ (.int .i64 r3.Code), .loaded ⟨b1, 1, none⟩ (.int .i64 r3.At)]) (by kernel_rfl) ⟨hS43.cell 4 rfl rfl, hS43.cell 4 rfl rfl, trivial⟩ ⟨hS46.cell 4 rfl rfl, hS46.cell 4 rfl rfl, trivial⟩) ?_ a hF
        refine go_alt2 (fun KK hKK => ?_) ?_
        · have hS47 := hS46.bring 1 rfl
          refine ge_set (b := b7) (j := 0) (cs := #[.int .i64 0, .int .i64 0]) (t := 30) (vs := [.int .i64 r3.Code, .int .i64 r3.At]) hS47 (by kernel_rfl) rfl rfl fun w21 hS48 => ?_
          have hS49 : St w0 w21 [Own.blk b7 (.cells #[.int .i64 r3.Code, .int .i64 r3.At] 30 (0, 0)), Own.blk b6 (.cells #[.int .i64 r3.Code, .int .i64 r3.At] 30 (0, 0)), Own.blk b3 (.cells #[.int .i64 r8.2.Code, .int .i64 r8.2.At] 30 (0, 0)), Own.blk b2 (.cells #[.int .i64 r7.2.Code, .int .i64 r7.2.At] 30 (0, 0)), Own.blk b1 (.cells #[.int .i64 r3.Code, .int .i64 r3.At] 30 (0, 0)), Own.of (.slice Z1 (l1 ++ [(⟨(-9), 0⟩ : SWindow), (⟨(-9), 0⟩ : SWindow), (⟨(-9), 0⟩ : SWindow)]).length cz1) 27 (l1 ++ [(⟨(-9), 0⟩ : SWindow), (⟨(-9), 0⟩ : SWindow), (⟨(-9), 0⟩ : SWindow)])] := hS48
          refine ge_nil fun a hF => hKK _ _ (RS.of2 (l := []) (by kernel_rfl) trivial trivial) ?_ a hF
          have hS50 := hS49.bring 5 rfl
          have hS51 := hS50.bring 5 rfl
          have hS52 := hS51.bring 5 rfl
          have hS53 := hS52.bring 5 rfl
          have hS54 := hS53.bring 4 rfl
          have hS55 := hS54.bring 5 rfl
          obtain rfl := Option.some.inj h
          exact go_fin2 fun a hF => hQ _ _ _ (Outs.again ⟨b6, b7, hS55, hF.weaken ⟨by kernel_rfl, by kernel_rfl, by kernel_rfl, by kernel_rfl, by kernel_rfl, by kernel_rfl, by kernel_rfl, by kernel_rfl, by kernel_rfl, by kernel_rfl, by kernel_rfl, by kernel_rfl, by kernel_rfl, by kernel_rfl, trivial⟩⟩)
        exact go_nomore2
      exact go_nomore2
    exact go_nomore2
  refine go_alt2 (fun KK hKK => ?_) ?_
  · refine ge_one2 ?_
    refine ge_new (d := some 18) (o := .cells #[.int .i64 0, .int .i64 0] 30) (v := fun b => .pointer (some ⟨b, 0, none⟩)) hS41 (fun b => by kernel_rfl) fun b6 w18 hx4 hS42 => ?_
    refine ge_nil fun a hF => hKK _ _ (RS.of2 (l := [.loaded ⟨b1, 0, none⟩ (.int .i64 r3.Code), .loaded ⟨b1, 1, none⟩ (.int .i64 r3.At), .loaded ⟨b1, 0, none⟩ (.int .i64 r3.Code), .loaded ⟨b1, 1, none⟩ (.int .i64 r3.At)]) (by kernel_rfl) ⟨hS41.cell 2 rfl rfl, hS41.cell 2 rfl rfl, hS41.cell 2 rfl rfl, hS41.cell 2 rfl rfl, trivial⟩ ⟨hS42.cell 3 rfl rfl, hS42.cell 3 rfl rfl, hS42.cell 3 rfl rfl, hS42.cell 3 rfl rfl, trivial⟩) ?_ a hF
    refine go_alt2 (fun KK hKK => ?_) ?_
    · refine ge_one2 ?_
      refine ge_new (d := some 17) (o := .cells #[.int .i64 0, .int .i64 0] 30) (v := fun b => .pointer (some ⟨b, 0, none⟩)) hS42 (fun b => by kernel_rfl) fun b7 w19 hx5 hS43 => ?_
      refine ge_nil fun a hF => hKK _ _ (RS.of2 (l := [.loaded ⟨b1, 0, none⟩ (.int .i64 r3.Code), .loaded ⟨b1, 1, none⟩ (.int .i64 r3.At), .loaded ⟨b1, 0, none⟩ (.int .i64 r3.Code), .loaded ⟨b1, 1, none⟩ (.int .i64 r3.At)]) (by kernel_rfl) ⟨hS42.cell 3 rfl rfl, hS42.cell 3 rfl rfl, hS42.cell 3 rfl rfl, hS42.cell 3 rfl rfl, trivial⟩ ⟨hS43.cell 4 rfl rfl, hS43.cell 4 rfl rfl, hS43.cell 4 rfl rfl, hS43.cell 4 rfl rfl, trivial⟩) ?_ a hF
      refine go2_batch [4, 5] (ans := []) (vs := [(16, .int .i64 0), (15, .int .i64 0)]) (l := []) (by kernel_rfl) trivial mem_nil ?_
      refine go_alt2 (fun KK hKK => ?_) ?_
      · refine ge_set (b := b7) (j := 0) (cs := #[.int .i64 0, .int .i64 0]) (t := 30) (vs := [.int .i64 r3.Code, .int .i64 r3.At]) hS43 (by kernel_rfl) rfl rfl fun w20 hS44 => ?_
        have hS45 : St w0 w20 [Own.blk b7 (.cells #[.int .i64 r3.Code, .int .i64 r3.At] 30 (0, 0)), Own.blk b6 (.cells #[.int .i64 0, .int .i64 0] 30 (0, 0)), Own.blk b3 (.cells #[.int .i64 r8.2.Code, .int .i64 r8.2.At] 30 (0, 0)), Own.blk b2 (.cells #[.int .i64 r7.2.Code, .int .i64 r7.2.At] 30 (0, 0)), Own.blk b1 (.cells #[.int .i64 r3.Code, .int .i64 r3.At] 30 (0, 0)), Own.of (.slice Z1 (l1 ++ [(⟨(-9), 0⟩ : SWindow), (⟨(-9), 0⟩ : SWindow), (⟨(-9), 0⟩ : SWindow)]).length cz1) 27 (l1 ++ [(⟨(-9), 0⟩ : SWindow), (⟨(-9), 0⟩ : SWindow), (⟨(-9), 0⟩ : SWindow)])] := hS44
        refine ge_nil fun a hF => hKK _ _ (RS.of2 (l := [.loaded ⟨b1, 0, none⟩ (.int .i64 r3.Code), .loaded ⟨b1, 1, none⟩ (.int .i64 r3.At)]) (by kernel_rfl) ⟨hS43.cell 4 rfl rfl, hS43.cell 4 rfl rfl, trivial⟩ ⟨hS45.cell 4 rfl rfl, hS45.cell 4 rfl rfl, trivial⟩) ?_ a hF
        refine go_alt2 (fun KK hKK => ?_) ?_
        · have hS46 := hS45.bring 1 rfl
          refine ge_set (b := b6) (j := 0) (cs := #[.int .i64 0, .int .i64 0]) (t := 30) (vs := [.int .i64 r3.Code, .int .i64 r3.At]) hS46 (by kernel_rfl) rfl rfl fun w21 hS47 => ?_
          have hS48 : St w0 w21 [Own.blk b6 (.cells #[.int .i64 r3.Code, .int .i64 r3.At] 30 (0, 0)), Own.blk b7 (.cells #[.int .i64 r3.Code, .int .i64 r3.At] 30 (0, 0)), Own.blk b3 (.cells #[.int .i64 r8.2.Code, .int .i64 r8.2.At] 30 (0, 0)), Own.blk b2 (.cells #[.int .i64 r7.2.Code, .int .i64 r7.2.At] 30 (0, 0)), Own.blk b1 (.cells #[.int .i64 r3.Code, .int .i64 r3.At] 30 (0, 0)), Own.of (.slice Z1 (l1 ++ [(⟨(-9), 0⟩ : SWindow), (⟨(-9), 0⟩ : SWindow), (⟨(-9), 0⟩ : SWindow)]).length cz1) 27 (l1 ++ [(⟨(-9), 0⟩ : SWindow), (⟨(-9), 0⟩ : SWindow), (⟨(-9), 0⟩ : SWindow)])] := hS47
          refine ge_nil fun a hF => hKK _ _ (RS.of2 (l := []) (by kernel_rfl) trivial trivial) ?_ a hF
          have hS49 := hS48.bring 5 rfl
          have hS50 := hS49.bring 5 rfl
          have hS51 := hS50.bring 5 rfl
          have hS52 := hS51.bring 5 rfl
          have hS53 := hS52.bring 4 rfl
          have hS54 := hS53.bring 5 rfl
          obtain rfl := Option.some.inj h
          exact go_fin2 fun a hF => hQ _ _ _ (Outs.again ⟨b7, b6, hS54, hF.weaken ⟨by kernel_rfl, by kernel_rfl, by kernel_rfl, by kernel_rfl, by kernel_rfl, by kernel_rfl, by kernel_rfl, by kernel_rfl, by kernel_rfl, by kernel_rfl, by kernel_rfl, by kernel_rfl, by kernel_rfl, by kernel_rfl, trivial⟩⟩)
        exact go_nomore2
      exact go_nomore2
    exact go_nomore2
  exact go_nomore2
abbrev WindowsSupply.A4 (K : Nat) (w0 : World) (x0 : Int) (l1 : List SWindow) (A1 : Option Addr) (c1 : Nat) (x2 : Int) (x3 : Int) (hR1 : RdL w0 A1 l1) (hL1 : l1.length ≤ c1) (hG0 : Glob w0 0 [.int .i64 (-9), .int .i64 0]) (r1 : Bool) (hc1 : r1 = true) (Z1 : Option Addr) (cz1 : Nat) (hcp1 : (l1 ++ [(⟨(-9), 0⟩ : SWindow), (⟨(-9), 0⟩ : SWindow), (⟨(-9), 0⟩ : SWindow)]).length ≤ cz1) (r3 : SFault) (b1 : Nat) (r7 : Int × SFault) (b2 : Nat) (r8 : Int × SFault) (b3 : Nat) (z7 : Int) (z8 : Int) (b8 : Nat) (b9 : Nat) (z9 : Int) (z10 : Int) (z11 : Int) (z12 : Int) (hc15 : r3.Code = 0) : (Int × Int × Int) → Act → World → Prop := fun (s : Int × Int × Int) a w => St w0 w [Own.blk b8 (.cells #[.int .i64 z9, .int .i64 z10] 30 (0, 0)), Own.blk b9 (.cells #[.int .i64 s.2.1, .int .i64 s.2.2] 30 (0, 0)), Own.blk b3 (.cells #[.int .i64 r8.2.Code, .int .i64 r8.2.At] 30 (0, 0)), Own.blk b2 (.cells #[.int .i64 r7.2.Code, .int .i64 r7.2.At] 30 (0, 0)), Own.of (.slice Z1 (l1 ++ [(⟨(-9), 0⟩ : SWindow), (⟨(-9), 0⟩ : SWindow), (⟨(-9), 0⟩ : SWindow)]).length cz1) 27 (l1 ++ [(⟨(-9), 0⟩ : SWindow), (⟨(-9), 0⟩ : SWindow), (⟨(-9), 0⟩ : SWindow)])] ∧ Frm 150 a [(0, .int .i64 x0), (1, .slice A1 l1.length c1), (3, .int .i64 x3), (9, .slice Z1 l1.length cz1), (11, .int .i64 r7.1), (12, .pointer (some ⟨b2, 0, none⟩)), (13, .int .i64 r8.1), (14, .pointer (some ⟨b3, 0, none⟩)), (15, .int .i64 s.1), (16, .int .i64 z8), (17, .pointer (some ⟨b8, 0, none⟩)), (18, .pointer (some ⟨b9, 0, none⟩))]
abbrev WindowsSupply.B4 (K : Nat) (w0 : World) (x0 : Int) (l1 : List SWindow) (A1 : Option Addr) (c1 : Nat) (x2 : Int) (x3 : Int) (hR1 : RdL w0 A1 l1) (hL1 : l1.length ≤ c1) (hG0 : Glob w0 0 [.int .i64 (-9), .int .i64 0]) (r1 : Bool) (hc1 : r1 = true) (Z1 : Option Addr) (cz1 : Nat) (hcp1 : (l1 ++ [(⟨(-9), 0⟩ : SWindow), (⟨(-9), 0⟩ : SWindow), (⟨(-9), 0⟩ : SWindow)]).length ≤ cz1) (r3 : SFault) (b1 : Nat) (r7 : Int × SFault) (b2 : Nat) (r8 : Int × SFault) (b3 : Nat) (z7 : Int) (z8 : Int) (b8 : Nat) (b9 : Nat) (z9 : Int) (z10 : Int) (z11 : Int) (z12 : Int) (hc15 : r3.Code = 0) : Bool → Exit → Act → World → Prop := Rets Tryd.prog Tryd.f3 (WindowsSupply.Post w0)
theorem WindowsSupply_p4 (K : Nat) (w0 : World) (x0 : Int) (l1 : List SWindow) (A1 : Option Addr) (c1 : Nat) (x2 : Int) (x3 : Int) (hR1 : RdL w0 A1 l1) (hL1 : l1.length ≤ c1) (hG0 : Glob w0 0 [.int .i64 (-9), .int .i64 0]) (r1 : Bool) (hc1 : r1 = true) (Z1 : Option Addr) (cz1 : Nat) (hcp1 : (l1 ++ [(⟨(-9), 0⟩ : SWindow), (⟨(-9), 0⟩ : SWindow), (⟨(-9), 0⟩ : SWindow)]).length ≤ cz1) (r3 : SFault) (b1 : Nat) (r7 : Int × SFault) (b2 : Nat) (r8 : Int × SFault) (b3 : Nat) (z7 : Int) (z8 : Int) (b8 : Nat) (b9 : Nat) (z9 : Int) (z10 : Int) (z11 : Int) (z12 : Int) (hc15 : r3.Code = 0) (o : (Int × Int × Int) ⊕ Bool) (h : WindowsSupply.p4 K x0 l1 x2 x3 z7 z11 z12 = some o) (w : World) (hS : St w0 w [Own.blk b8 (.cells #[.int .i64 z9, .int .i64 z10] 30 (0, 0)), Own.blk b9 (.cells #[.int .i64 z11, .int .i64 z12] 30 (0, 0)), Own.blk b3 (.cells #[.int .i64 r8.2.Code, .int .i64 r8.2.At] 30 (0, 0)), Own.blk b2 (.cells #[.int .i64 r7.2.Code, .int .i64 r7.2.At] 30 (0, 0)), Own.blk b1 (.cells #[.int .i64 r3.Code, .int .i64 r3.At] 30 (0, 0)), Own.of (.slice Z1 (l1 ++ [(⟨(-9), 0⟩ : SWindow), (⟨(-9), 0⟩ : SWindow), (⟨(-9), 0⟩ : SWindow)]).length cz1) 27 (l1 ++ [(⟨(-9), 0⟩ : SWindow), (⟨(-9), 0⟩ : SWindow), (⟨(-9), 0⟩ : SWindow)])]) (Q : Exit → Act → World → Prop) (hQ : ∀ x a w, Outs (WindowsSupply.A4 K w0 x0 l1 A1 c1 x2 x3 hR1 hL1 hG0 r1 hc1 Z1 cz1 hcp1 r3 b1 r7 b2 r8 b3 z7 z8 b8 b9 z9 z10 z11 z12 hc15) (WindowsSupply.B4 K w0 x0 l1 A1 c1 x2 x3 hR1 hL1 hG0 r1 hc1 Z1 cz1 hcp1 r3 b1 r7 b2 r8 b3 z7 z8 b8 b9 z9 z10 z11 z12 hc15) o x a w → Q x a w) : WE Tryd.prog 150 (subF Tryd.f3 [1, 1, 1, 1, 1, 1, 1, 1, 1, 0, 1, 0, 0]) Q [(0, .int .i64 x0), (1, .slice A1 l1.length c1), (2, .int .i64 x2), (3, .int .i64 x3), (9, .slice Z1 l1.length cz1), (10, .pointer (some ⟨b1, 0, none⟩)), (11, .int .i64 r7.1), (12, .pointer (some ⟨b2, 0, none⟩)), (13, .int .i64 r8.1), (14, .pointer (some ⟨b3, 0, none⟩)), (15, .int .i64 z7), (16, .int .i64 z8), (17, .pointer (some ⟨b8, 0, none⟩)), (18, .pointer (some ⟨b9, 0, none⟩)), (89, .pointer (some ⟨b1, 0, none⟩)), (90, .int .i64 r3.Code), (91, .bool true)] w := by
  simp only [WindowsSupply.p4] at h
  refine we_seq fun K24 hK24 => ?_
  refine we_region [(0, 0), (1, 0), (2, 0), (3, 0), (4, 0), (5, 0), (6, 0), (7, 0), (8, 0), (9, 0), (10, 0), (11, 0), (12, 0), (13, 0)] rfl ?_
  refine ge_batch [0, 1, 2] (ans := []) (vs := [(94, .bool (decide (x2 < 0))), (93, .bool (decide (x2 < 0))), (92, .int .i64 x2)]) (l := []) (by kernel_rfl) trivial ?_
  by_cases hc16 : x2 < 0
  · rw [if_pos hc16] at h
    refine ge_known (t := 94) (b := decide (x2 < 0)) (c := true) (by kernel_rfl) (decide_eq_true hc16) ?_
    refine ge_batch [3, 4, 5, 6, 7, 8, 9, 10, 11, 12, 13] (ans := []) (vs := [(105, .bool true), (104, undef), (103, undef), (102, .bool true), (101, .bool true), (100, undef), (99, undef), (98, .bool true), (97, .bool true), (96, undef), (95, undef)]) (l := []) (by kernel_rfl) trivial ?_
    refine ge_nil fun a hF => hK24 _ _ ?_ a hF
    refine we_true (by kernel_rfl) ?_
    refine we_region [(0, 1), (1, 2)] rfl ?_
    refine ge_call (d := some 106) (f := 17) (args := #[.int .i64 3, .int .i64 0]) (by kernel_rfl) (punctualref_F_ok 3 0 _ _ rfl) ?_
    rintro _ w23 ⟨rfl, hS56⟩
    refine ⟨_, rfl, hS56.below, ?_⟩
    have hS57 := hS.call hS56
    have hS58 := hS57.bring 1 rfl
    refine ge_set (b := b9) (j := 0) (cs := #[.int .i64 z11, .int .i64 z12]) (t := 30) (vs := [.int .i64 ((punctualref_F.f 3 0).Code), .int .i64 ((punctualref_F.f 3 0).At)]) hS58 (by kernel_rfl) rfl rfl fun w24 hS59 => ?_
    have hS60 : St w0 w24 [Own.blk b9 (.cells #[.int .i64 ((punctualref_F.f 3 0).Code), .int .i64 ((punctualref_F.f 3 0).At)] 30 (0, 0)), Own.blk b8 (.cells #[.int .i64 z9, .int .i64 z10] 30 (0, 0)), Own.blk b3 (.cells #[.int .i64 r8.2.Code, .int .i64 r8.2.At] 30 (0, 0)), Own.blk b2 (.cells #[.int .i64 r7.2.Code, .int .i64 r7.2.At] 30 (0, 0)), Own.blk b1 (.cells #[.int .i64 r3.Code, .int .i64 r3.At] 30 (0, 0)), Own.of (.slice Z1 (l1 ++ [(⟨(-9), 0⟩ : SWindow), (⟨(-9), 0⟩ : SWindow), (⟨(-9), 0⟩ : SWindow)]).length cz1) 27 (l1 ++ [(⟨(-9), 0⟩ : SWindow), (⟨(-9), 0⟩ : SWindow), (⟨(-9), 0⟩ : SWindow)])] := hS59
    have hS61 := hS60.bring 5 rfl
    have hS62 := hS61.bring 4 rfl
    have hS63 := hS62.bring 4 rfl
    have hS64 := hS63.bring 3 rfl
    have hS65 := hS64.bring 4 rfl
    have hS66 := hS65.takeN 5
    obtain rfl := Option.some.inj h
    exact ge_nil fun a hF => hQ _ _ _ (Outs.again ⟨hS66, hF.weaken ⟨by kernel_rfl, by kernel_rfl, by kernel_rfl, by kernel_rfl, by kernel_rfl, by kernel_rfl, by kernel_rfl, by kernel_rfl, by kernel_rfl, by kernel_rfl, by kernel_rfl, by kernel_rfl, trivial⟩⟩)
  · rw [if_neg hc16] at h
    refine ge_known (t := 94) (b := decide (x2 < 0)) (c := false) (by kernel_rfl) (decide_eq_false hc16) ?_
    refine ge_batch [3, 4, 5, 6] (ans := []) (vs := [(98, .bool (decide (x2 > 20000))), (97, .bool (decide (x2 > 20000))), (96, .bool (decide (x2 > 20000))), (95, .int .i64 x2)]) (l := []) (by kernel_rfl) trivial ?_
    by_cases hc17 : x2 > 20000
    · rw [if_pos hc17] at h
      refine ge_known (t := 98) (b := decide (x2 > 20000)) (c := true) (by kernel_rfl) (decide_eq_true hc17) ?_
      refine ge_batch [7, 8, 9, 10, 11, 12, 13] (ans := []) (vs := [(105, .bool true), (104, undef), (103, undef), (102, .bool true), (101, .bool true), (100, undef), (99, undef)]) (l := []) (by kernel_rfl) trivial ?_
      refine ge_nil fun a hF => hK24 _ _ ?_ a hF
      refine we_true (by kernel_rfl) ?_
      refine we_region [(0, 1), (1, 2)] rfl ?_
      refine ge_call (d := some 106) (f := 17) (args := #[.int .i64 3, .int .i64 0]) (by kernel_rfl) (punctualref_F_ok 3 0 _ _ rfl) ?_
      rintro _ w25 ⟨rfl, hS67⟩
      refine ⟨_, rfl, hS67.below, ?_⟩
      have hS68 := hS.call hS67
      have hS69 := hS68.bring 1 rfl
      refine ge_set (b := b9) (j := 0) (cs := #[.int .i64 z11, .int .i64 z12]) (t := 30) (vs := [.int .i64 ((punctualref_F.f 3 0).Code), .int .i64 ((punctualref_F.f 3 0).At)]) hS69 (by kernel_rfl) rfl rfl fun w26 hS70 => ?_
      have hS71 : St w0 w26 [Own.blk b9 (.cells #[.int .i64 ((punctualref_F.f 3 0).Code), .int .i64 ((punctualref_F.f 3 0).At)] 30 (0, 0)), Own.blk b8 (.cells #[.int .i64 z9, .int .i64 z10] 30 (0, 0)), Own.blk b3 (.cells #[.int .i64 r8.2.Code, .int .i64 r8.2.At] 30 (0, 0)), Own.blk b2 (.cells #[.int .i64 r7.2.Code, .int .i64 r7.2.At] 30 (0, 0)), Own.blk b1 (.cells #[.int .i64 r3.Code, .int .i64 r3.At] 30 (0, 0)), Own.of (.slice Z1 (l1 ++ [(⟨(-9), 0⟩ : SWindow), (⟨(-9), 0⟩ : SWindow), (⟨(-9), 0⟩ : SWindow)]).length cz1) 27 (l1 ++ [(⟨(-9), 0⟩ : SWindow), (⟨(-9), 0⟩ : SWindow), (⟨(-9), 0⟩ : SWindow)])] := hS70
      have hS72 := hS71.bring 5 rfl
      have hS73 := hS72.bring 4 rfl
      have hS74 := hS73.bring 4 rfl
      have hS75 := hS74.bring 3 rfl
      have hS76 := hS75.bring 4 rfl
      have hS77 := hS76.takeN 5
      obtain rfl := Option.some.inj h
      exact ge_nil fun a hF => hQ _ _ _ (Outs.again ⟨hS77, hF.weaken ⟨by kernel_rfl, by kernel_rfl, by kernel_rfl, by kernel_rfl, by kernel_rfl, by kernel_rfl, by kernel_rfl, by kernel_rfl, by kernel_rfl, by kernel_rfl, by kernel_rfl, by kernel_rfl, trivial⟩⟩)
    · rw [if_neg hc17] at h
      refine ge_known (t := 98) (b := decide (x2 > 20000)) (c := false) (by kernel_rfl) (decide_eq_false hc17) ?_
      refine ge_batch [7, 8, 9, 10] (ans := []) (vs := [(102, .bool (decide (x3 < 0))), (101, .bool (decide (x3 < 0))), (100, .bool (decide (x3 < 0))), (99, .int .i64 x3)]) (l := []) (by kernel_rfl) trivial ?_
      by_cases hc18 : x3 < 0
      · rw [if_pos hc18] at h
        refine ge_known (t := 102) (b := decide (x3 < 0)) (c := true) (by kernel_rfl) (decide_eq_true hc18) ?_
        refine ge_batch [11, 12, 13] (ans := []) (vs := [(105, .bool true), (104, undef), (103, undef)]) (l := []) (by kernel_rfl) trivial ?_
        refine ge_nil fun a hF => hK24 _ _ ?_ a hF
        refine we_true (by kernel_rfl) ?_
        refine we_region [(0, 1), (1, 2)] rfl ?_
        refine ge_call (d := some 106) (f := 17) (args := #[.int .i64 3, .int .i64 0]) (by kernel_rfl) (punctualref_F_ok 3 0 _ _ rfl) ?_
        rintro _ w27 ⟨rfl, hS78⟩
        refine ⟨_, rfl, hS78.below, ?_⟩
        have hS79 := hS.call hS78
        have hS80 := hS79.bring 1 rfl
        refine ge_set (b := b9) (j := 0) (cs := #[.int .i64 z11, .int .i64 z12]) (t := 30) (vs := [.int .i64 ((punctualref_F.f 3 0).Code), .int .i64 ((punctualref_F.f 3 0).At)]) hS80 (by kernel_rfl) rfl rfl fun w28 hS81 => ?_
        have hS82 : St w0 w28 [Own.blk b9 (.cells #[.int .i64 ((punctualref_F.f 3 0).Code), .int .i64 ((punctualref_F.f 3 0).At)] 30 (0, 0)), Own.blk b8 (.cells #[.int .i64 z9, .int .i64 z10] 30 (0, 0)), Own.blk b3 (.cells #[.int .i64 r8.2.Code, .int .i64 r8.2.At] 30 (0, 0)), Own.blk b2 (.cells #[.int .i64 r7.2.Code, .int .i64 r7.2.At] 30 (0, 0)), Own.blk b1 (.cells #[.int .i64 r3.Code, .int .i64 r3.At] 30 (0, 0)), Own.of (.slice Z1 (l1 ++ [(⟨(-9), 0⟩ : SWindow), (⟨(-9), 0⟩ : SWindow), (⟨(-9), 0⟩ : SWindow)]).length cz1) 27 (l1 ++ [(⟨(-9), 0⟩ : SWindow), (⟨(-9), 0⟩ : SWindow), (⟨(-9), 0⟩ : SWindow)])] := hS81
        have hS83 := hS82.bring 5 rfl
        have hS84 := hS83.bring 4 rfl
        have hS85 := hS84.bring 4 rfl
        have hS86 := hS85.bring 3 rfl
        have hS87 := hS86.bring 4 rfl
        have hS88 := hS87.takeN 5
        obtain rfl := Option.some.inj h
        exact ge_nil fun a hF => hQ _ _ _ (Outs.again ⟨hS88, hF.weaken ⟨by kernel_rfl, by kernel_rfl, by kernel_rfl, by kernel_rfl, by kernel_rfl, by kernel_rfl, by kernel_rfl, by kernel_rfl, by kernel_rfl, by kernel_rfl, by kernel_rfl, by kernel_rfl, trivial⟩⟩)
      · rw [if_neg hc18] at h
        refine ge_known (t := 102) (b := decide (x3 < 0)) (c := false) (by kernel_rfl) (decide_eq_false hc18) ?_
        refine ge_batch [11, 12, 13] (ans := []) (vs := [(105, .bool (decide (x3 > 20000))), (104, .bool (decide (x3 > 20000))), (103, .int .i64 x3)]) (l := []) (by kernel_rfl) trivial ?_
        refine ge_nil fun a hF => hK24 _ _ ?_ a hF
        by_cases hc19 : x3 > 20000
        · rw [if_pos hc19] at h
          refine we_known (t := 105) (b := decide (x3 > 20000)) (v := true) (by kernel_rfl) (decide_eq_true hc19) ?_
          refine we_true (by kernel_rfl) ?_
          refine we_region [(0, 1), (1, 2)] rfl ?_
          refine ge_call (d := some 106) (f := 17) (args := #[.int .i64 3, .int .i64 0]) (by kernel_rfl) (punctualref_F_ok 3 0 _ _ rfl) ?_
          rintro _ w29 ⟨rfl, hS89⟩
          refine ⟨_, rfl, hS89.below, ?_⟩
          have hS90 := hS.call hS89
          have hS91 := hS90.bring 1 rfl
          refine ge_set (b := b9) (j := 0) (cs := #[.int .i64 z11, .int .i64 z12]) (t := 30) (vs := [.int .i64 ((punctualref_F.f 3 0).Code), .int .i64 ((punctualref_F.f 3 0).At)]) hS91 (by kernel_rfl) rfl rfl fun w30 hS92 => ?_
          have hS93 : St w0 w30 [Own.blk b9 (.cells #[.int .i64 ((punctualref_F.f 3 0).Code), .int .i64 ((punctualref_F.f 3 0).At)] 30 (0, 0)), Own.blk b8 (.cells #[.int .i64 z9, .int .i64 z10] 30 (0, 0)), Own.blk b3 (.cells #[.int .i64 r8.2.Code, .int .i64 r8.2.At] 30 (0, 0)), Own.blk b2 (.cells #[.int .i64 r7.2.Code, .int .i64 r7.2.At] 30 (0, 0)), Own.blk b1 (.cells #[.int .i64 r3.Code, .int .i64 r3.At] 30 (0, 0)), Own.of (.slice Z1 (l1 ++ [(⟨(-9), 0⟩ : SWindow), (⟨(-9), 0⟩ : SWindow), (⟨(-9), 0⟩ : SWindow)]).length cz1) 27 (l1 ++ [(⟨(-9), 0⟩ : SWindow), (⟨(-9), 0⟩ : SWindow), (⟨(-9), 0⟩ : SWindow)])] := hS92
          have hS94 := hS93.bring 5 rfl
          have hS95 := hS94.bring 4 rfl
          have hS96 := hS95.bring 4 rfl
          have hS97 := hS96.bring 3 rfl
          have hS98 := hS97.bring 4 rfl
          have hS99 := hS98.takeN 5
          obtain rfl := Option.some.inj h
          exact ge_nil fun a hF => hQ _ _ _ (Outs.again ⟨hS99, hF.weaken ⟨by kernel_rfl, by kernel_rfl, by kernel_rfl, by kernel_rfl, by kernel_rfl, by kernel_rfl, by kernel_rfl, by kernel_rfl, by kernel_rfl, by kernel_rfl, by kernel_rfl, by kernel_rfl, trivial⟩⟩)
        · rw [if_neg hc19] at h
          refine we_known (t := 105) (b := decide (x3 > 20000)) (v := false) (by kernel_rfl) (decide_eq_false hc19) ?_
          refine we_false (by kernel_rfl) ?_
          refine we_region [(0, 0), (1, 0), (2, 0), (3, 0), (4, 1), (5, 0)] rfl ?_
          rcases hq17 : punctualref_SupplyOf.f K x0 l1 x2 x3 with _ | r9
          · rw [hq17] at h; cases h
          rw [hq17] at h
          simp only [] at h
          refine ge_batch [0, 1, 2, 3] (ans := []) (vs := [(110, .int .i64 x3), (109, .int .i64 x2), (108, .slice A1 l1.length c1), (107, .int .i64 x0)]) (l := []) (by kernel_rfl) trivial ?_
          refine ge_call (d := some 111) (f := 18) (args := #[.int .i64 x0, .slice A1 l1.length c1, .int .i64 x2, .int .i64 x3]) (by kernel_rfl) (punctualref_SupplyOf_ok K x0 l1 A1 c1 x2 x3 _ (hS.rd hR1) hL1 _ hq17) ?_
          rintro _ w31 ⟨rfl, hS100⟩
          refine ⟨_, rfl, hS100.below, ?_⟩
          have hS101 := hS.call hS100
          refine ge_batch [5] (ans := []) (vs := [(15, .int .i64 r9)]) (l := []) (by kernel_rfl) trivial ?_
          have hS102 := hS101.bring 5 rfl
          have hS103 := hS102.bring 4 rfl
          have hS104 := hS103.bring 4 rfl
          have hS105 := hS104.bring 4 rfl
          have hS106 := hS105.bring 4 rfl
          have hS107 := hS106.takeN 5
          obtain rfl := Option.some.inj h
          exact ge_nil fun a hF => hQ _ _ _ (Outs.again ⟨hS107, hF.weaken ⟨by kernel_rfl, by kernel_rfl, by kernel_rfl, by kernel_rfl, by kernel_rfl, by kernel_rfl, by kernel_rfl, by kernel_rfl, by kernel_rfl, by kernel_rfl, by kernel_rfl, by kernel_rfl, trivial⟩⟩)
abbrev WindowsSupply.A3 (K : Nat) (w0 : World) (x0 : Int) (l1 : List SWindow) (A1 : Option Addr) (c1 : Nat) (x2 : Int) (x3 : Int) (hR1 : RdL w0 A1 l1) (hL1 : l1.length ≤ c1) (hG0 : Glob w0 0 [.int .i64 (-9), .int .i64 0]) (r1 : Bool) (hc1 : r1 = true) (Z1 : Option Addr) (cz1 : Nat) (hcp1 : (l1 ++ [(⟨(-9), 0⟩ : SWindow), (⟨(-9), 0⟩ : SWindow), (⟨(-9), 0⟩ : SWindow)]).length ≤ cz1) (r3 : SFault) (b1 : Nat) (r7 : Int × SFault) (b2 : Nat) (r8 : Int × SFault) (b3 : Nat) (z7 : Int) (z8 : Int) (b8 : Nat) (b9 : Nat) (z9 : Int) (z10 : Int) (z11 : Int) (z12 : Int) : (Int × Int × Int × Int × Int × Int) → Act → World → Prop := fun (s : Int × Int × Int × Int × Int × Int) a w => St w0 w [Own.blk b8 (.cells #[.int .i64 s.2.2.1, .int .i64 s.2.2.2.1] 30 (0, 0)), Own.blk b9 (.cells #[.int .i64 s.2.2.2.2.1, .int .i64 s.2.2.2.2.2] 30 (0, 0)), Own.blk b3 (.cells #[.int .i64 r8.2.Code, .int .i64 r8.2.At] 30 (0, 0)), Own.blk b2 (.cells #[.int .i64 r7.2.Code, .int .i64 r7.2.At] 30 (0, 0)), Own.of (.slice Z1 (l1 ++ [(⟨(-9), 0⟩ : SWindow), (⟨(-9), 0⟩ : SWindow), (⟨(-9), 0⟩ : SWindow)]).length cz1) 27 (l1 ++ [(⟨(-9), 0⟩ : SWindow), (⟨(-9), 0⟩ : SWindow), (⟨(-9), 0⟩ : SWindow)])] ∧ Frm 150 a [(1, .slice A1 l1.length c1), (9, .slice Z1 l1.length cz1), (11, .int .i64 r7.1), (12, .pointer (some ⟨b2, 0, none⟩)), (13, .int .i64 r8.1), (14, .pointer (some ⟨b3, 0, none⟩)), (15, .int .i64 s.1), (16, .int .i64 s.2.1), (17, .pointer (some ⟨b8, 0, none⟩)), (18, .pointer (some ⟨b9, 0, none⟩))]
abbrev WindowsSupply.B3 (K : Nat) (w0 : World) (x0 : Int) (l1 : List SWindow) (A1 : Option Addr) (c1 : Nat) (x2 : Int) (x3 : Int) (hR1 : RdL w0 A1 l1) (hL1 : l1.length ≤ c1) (hG0 : Glob w0 0 [.int .i64 (-9), .int .i64 0]) (r1 : Bool) (hc1 : r1 = true) (Z1 : Option Addr) (cz1 : Nat) (hcp1 : (l1 ++ [(⟨(-9), 0⟩ : SWindow), (⟨(-9), 0⟩ : SWindow), (⟨(-9), 0⟩ : SWindow)]).length ≤ cz1) (r3 : SFault) (b1 : Nat) (r7 : Int × SFault) (b2 : Nat) (r8 : Int × SFault) (b3 : Nat) (z7 : Int) (z8 : Int) (b8 : Nat) (b9 : Nat) (z9 : Int) (z10 : Int) (z11 : Int) (z12 : Int) : Bool → Exit → Act → World → Prop := Rets Tryd.prog Tryd.f3 (WindowsSupply.Post w0)
theorem WindowsSupply_p3 (K : Nat) (w0 : World) (x0 : Int) (l1 : List SWindow) (A1 : Option Addr) (c1 : Nat) (x2 : Int) (x3 : Int) (hR1 : RdL w0 A1 l1) (hL1 : l1.length ≤ c1) (hG0 : Glob w0 0 [.int .i64 (-9), .int .i64 0]) (r1 : Bool) (hc1 : r1 = true) (Z1 : Option Addr) (cz1 : Nat) (hcp1 : (l1 ++ [(⟨(-9), 0⟩ : SWindow), (⟨(-9), 0⟩ : SWindow), (⟨(-9), 0⟩ : SWindow)]).length ≤ cz1) (r3 : SFault) (b1 : Nat) (r7 : Int × SFault) (b2 : Nat) (r8 : Int × SFault) (b3 : Nat) (z7 : Int) (z8 : Int) (b8 : Nat) (b9 : Nat) (z9 : Int) (z10 : Int) (z11 : Int) (z12 : Int) (o : (Int × Int × Int × Int × Int × Int) ⊕ Bool) (h : WindowsSupply.p3 K x0 l1 x2 x3 r3 z7 z8 z9 z10 z11 z12 = some o) (w : World) (hS : St w0 w [Own.blk b8 (.cells #[.int .i64 z9, .int .i64 z10] 30 (0, 0)), Own.blk b9 (.cells #[.int .i64 z11, .int .i64 z12] 30 (0, 0)), Own.blk b3 (.cells #[.int .i64 r8.2.Code, .int .i64 r8.2.At] 30 (0, 0)), Own.blk b2 (.cells #[.int .i64 r7.2.Code, .int .i64 r7.2.At] 30 (0, 0)), Own.blk b1 (.cells #[.int .i64 r3.Code, .int .i64 r3.At] 30 (0, 0)), Own.of (.slice Z1 (l1 ++ [(⟨(-9), 0⟩ : SWindow), (⟨(-9), 0⟩ : SWindow), (⟨(-9), 0⟩ : SWindow)]).length cz1) 27 (l1 ++ [(⟨(-9), 0⟩ : SWindow), (⟨(-9), 0⟩ : SWindow), (⟨(-9), 0⟩ : SWindow)])]) (Q : Exit → Act → World → Prop) (hQ : ∀ x a w, Outs (WindowsSupply.A3 K w0 x0 l1 A1 c1 x2 x3 hR1 hL1 hG0 r1 hc1 Z1 cz1 hcp1 r3 b1 r7 b2 r8 b3 z7 z8 b8 b9 z9 z10 z11 z12) (WindowsSupply.B3 K w0 x0 l1 A1 c1 x2 x3 hR1 hL1 hG0 r1 hc1 Z1 cz1 hcp1 r3 b1 r7 b2 r8 b3 z7 z8 b8 b9 z9 z10 z11 z12) o x a w → Q x a w) : WE Tryd.prog 150 (subF Tryd.f3 [1, 1, 1, 1, 1, 1, 1, 1, 1, 0]) Q [(0, .int .i64 x0), (1, .slice A1 l1.length c1), (2, .int .i64 x2), (3, .int .i64 x3), (9, .slice Z1 l1.length cz1), (10, .pointer (some ⟨b1, 0, none⟩)), (11, .int .i64 r7.1), (12, .pointer (some ⟨b2, 0, none⟩)), (13, .int .i64 r8.1), (14, .pointer (some ⟨b3, 0, none⟩)), (15, .int .i64 z7), (16, .int .i64 z8), (17, .pointer (some ⟨b8, 0, none⟩)), (18, .pointer (some ⟨b9, 0, none⟩))] w := by
  simp only [WindowsSupply.p3] at h
  refine we_seq fun K22 hK22 => ?_
  refine we_region [(0, 0), (1, 0), (2, 0)] rfl ?_
  refine ge_batch [0, 1, 2] (ans := [.val (.int .i64 r3.Code)]) (vs := [(91, .bool (r3.Code == 0)), (90, .int .i64 r3.Code), (89, .pointer (some ⟨b1, 0, none⟩))]) (l := [.loaded ⟨b1, 0, none⟩ (.int .i64 r3.Code)]) (by kernel_rfl) ⟨hS.cell 4 rfl rfl, trivial⟩ ?_
  refine ge_nil fun a hF => hK22 _ _ ?_ a hF
  by_cases hc15 : r3.Code = 0
  · rw [if_pos hc15] at h
    refine we_known (t := 91) (b := (r3.Code == 0)) (v := true) (by kernel_rfl) (beq_iff_eq.2 hc15) ?_
    refine we_true (by kernel_rfl) ?_
    refine we_seq fun K23 hK23 => ?_
    rcases hq18 : WindowsSupply.p4 K x0 l1 x2 x3 z7 z11 z12 with _ | (⟨z22, z23, z24⟩ | rr1)
    · rw [hq18] at h; cases h
    · rw [hq18] at h
      simp only [] at h
      refine we_keep (e' := [(0, .int .i64 x0), (1, .slice A1 l1.length c1), (2, .int .i64 x2), (3, .int .i64 x3), (9, .slice Z1 l1.length cz1), (10, .pointer (some ⟨b1, 0, none⟩)), (11, .int .i64 r7.1), (12, .pointer (some ⟨b2, 0, none⟩)), (13, .int .i64 r8.1), (14, .pointer (some ⟨b3, 0, none⟩)), (15, .int .i64 z7), (16, .int .i64 z8), (17, .pointer (some ⟨b8, 0, none⟩)), (18, .pointer (some ⟨b9, 0, none⟩)), (89, .pointer (some ⟨b1, 0, none⟩)), (90, .int .i64 r3.Code), (91, .bool true)]) ⟨by kernel_rfl, by kernel_rfl, by kernel_rfl, by kernel_rfl, by kernel_rfl, by kernel_rfl, by kernel_rfl, by kernel_rfl, by kernel_rfl, by kernel_rfl, by kernel_rfl, by kernel_rfl, by kernel_rfl, by kernel_rfl, by kernel_rfl, by kernel_rfl, by kernel_rfl, trivial⟩ (WindowsSupply_p4 K w0 x0 l1 A1 c1 x2 x3 hR1 hL1 hG0 r1 hc1 Z1 cz1 hcp1 r3 b1 r7 b2 r8 b3 z7 z8 b8 b9 z9 z10 z11 z12 hc15 _ hq18 _ hS _ ?_)
      rintro _ a w32 ⟨rfl, hS108, hF⟩
      replace hS108 : St w0 w32 [Own.blk b8 (.cells #[.int .i64 z9, .int .i64 z10] 30 (0, 0)), Own.blk b9 (.cells #[.int .i64 z23, .int .i64 z24] 30 (0, 0)), Own.blk b3 (.cells #[.int .i64 r8.2.Code, .int .i64 r8.2.At] 30 (0, 0)), Own.blk b2 (.cells #[.int .i64 r7.2.Code, .int .i64 r7.2.At] 30 (0, 0)), Own.of (.slice Z1 (l1 ++ [(⟨(-9), 0⟩ : SWindow), (⟨(-9), 0⟩ : SWindow), (⟨(-9), 0⟩ : SWindow)]).length cz1) 27 (l1 ++ [(⟨(-9), 0⟩ : SWindow), (⟨(-9), 0⟩ : SWindow), (⟨(-9), 0⟩ : SWindow)])] := hS108
      refine hK23 [(0, .int .i64 x0), (1, .slice A1 l1.length c1), (3, .int .i64 x3), (9, .slice Z1 l1.length cz1), (11, .int .i64 r7.1), (12, .pointer (some ⟨b2, 0, none⟩)), (13, .int .i64 r8.1), (14, .pointer (some ⟨b3, 0, none⟩)), (15, .int .i64 z22), (16, .int .i64 z8), (17, .pointer (some ⟨b8, 0, none⟩)), (18, .pointer (some ⟨b9, 0, none⟩))] w32 ?_ a hF
      refine we_seq fun K25 hK25 => ?_
      refine we_region [(0, 0), (1, 0), (2, 0), (3, 0), (4, 0), (5, 0)] rfl ?_
      refine ge_batch [0, 1, 2] (ans := []) (vs := [(114, .bool (decide (x3 < 0))), (113, .bool (decide (x3 < 0))), (112, .int .i64 x3)]) (l := []) (by kernel_rfl) trivial ?_
      by_cases hc20 : x3 < 0
      · rw [if_pos hc20] at h
        refine ge_known (t := 114) (b := decide (x3 < 0)) (c := true) (by kernel_rfl) (decide_eq_true hc20) ?_
        refine ge_batch [3, 4, 5] (ans := []) (vs := [(117, .bool true), (116, undef), (115, undef)]) (l := []) (by kernel_rfl) trivial ?_
        refine ge_nil fun a hF => hK25 _ _ ?_ a hF
        refine we_true (by kernel_rfl) ?_
        refine we_region [(0, 1), (1, 2)] rfl ?_
        refine ge_call (d := some 118) (f := 17) (args := #[.int .i64 3, .int .i64 0]) (by kernel_rfl) (punctualref_F_ok 3 0 _ _ rfl) ?_
        rintro _ w33 ⟨rfl, hS109⟩
        refine ⟨_, rfl, hS109.below, ?_⟩
        have hS110 := hS108.call hS109
        refine ge_set (b := b8) (j := 0) (cs := #[.int .i64 z9, .int .i64 z10]) (t := 30) (vs := [.int .i64 ((punctualref_F.f 3 0).Code), .int .i64 ((punctualref_F.f 3 0).At)]) hS110 (by kernel_rfl) rfl rfl fun w34 hS111 => ?_
        have hS112 : St w0 w34 [Own.blk b8 (.cells #[.int .i64 ((punctualref_F.f 3 0).Code), .int .i64 ((punctualref_F.f 3 0).At)] 30 (0, 0)), Own.blk b9 (.cells #[.int .i64 z23, .int .i64 z24] 30 (0, 0)), Own.blk b3 (.cells #[.int .i64 r8.2.Code, .int .i64 r8.2.At] 30 (0, 0)), Own.blk b2 (.cells #[.int .i64 r7.2.Code, .int .i64 r7.2.At] 30 (0, 0)), Own.of (.slice Z1 (l1 ++ [(⟨(-9), 0⟩ : SWindow), (⟨(-9), 0⟩ : SWindow), (⟨(-9), 0⟩ : SWindow)]).length cz1) 27 (l1 ++ [(⟨(-9), 0⟩ : SWindow), (⟨(-9), 0⟩ : SWindow), (⟨(-9), 0⟩ : SWindow)])] := hS111
        have hS113 := hS112.bring 4 rfl
        have hS114 := hS113.bring 4 rfl
        have hS115 := hS114.bring 4 rfl
        have hS116 := hS115.bring 4 rfl
        have hS117 := hS116.bring 4 rfl
        obtain rfl := Option.some.inj h
        exact ge_nil fun a hF => hQ _ _ _ (Outs.again ⟨hS117, hF.weaken ⟨by kernel_rfl, by kernel_rfl, by kernel_rfl, by kernel_rfl, by kernel_rfl, by kernel_rfl, by kernel_rfl, by kernel_rfl, by kernel_rfl, by kernel_rfl, trivial⟩⟩)
      · rw [if_neg hc20] at h
        refine ge_known (t := 114) (b := decide (x3 < 0)) (c := false) (by kernel_rfl) (decide_eq_false hc20) ?_
        refine ge_batch [3, 4, 5] (ans := []) (vs := [(117, .bool (decide (x3 > 20000))), (116, .bool (decide (x3 > 20000))), (115, .int .i64 x3)]) (l := []) (by kernel_rfl) trivial ?_
        refine ge_nil fun a hF => hK25 _ _ ?_ a hF
        by_cases hc21 : x3 > 20000
        · rw [if_pos hc21] at h
          refine we_known (t := 117) (b := decide (x3 > 20000)) (v := true) (by kernel_rfl) (decide_eq_true hc21) ?_
          refine we_true (by kernel_rfl) ?_
          refine we_region [(0, 1), (1, 2)] rfl ?_
          refine ge_call (d := some 118) (f := 17) (args := #[.int .i64 3, .int .i64 0]) (by kernel_rfl) (punctualref_F_ok 3 0 _ _ rfl) ?_
          rintro _ w35 ⟨rfl, hS118⟩
          refine ⟨_, rfl, hS118.below, ?_⟩
          have hS119 := hS108.call hS118
          refine ge_set (b := b8) (j := 0) (cs := #[.int .i64 z9, .int .i64 z10]) (t := 30) (vs := [.int .i64 ((punctualref_F.f 3 0).Code), .int .i64 ((punctualref_F.f 3 0).At)]) hS119 (by kernel_rfl) rfl rfl fun w36 hS120 => ?_
          have hS121 : St w0 w36 [Own.blk b8 (.cells #[.int .i64 ((punctualref_F.f 3 0).Code), .int .i64 ((punctualref_F.f 3 0).At)] 30 (0, 0)), Own.blk b9 (.cells #[.int .i64 z23, .int .i64 z24] 30 (0, 0)), Own.blk b3 (.cells #[.int .i64 r8.2.Code, .int .i64 r8.2.At] 30 (0, 0)), Own.blk b2 (.cells #[.int .i64 r7.2.Code, .int .i64 r7.2.At] 30 (0, 0)), Own.of (.slice Z1 (l1 ++ [(⟨(-9), 0⟩ : SWindow), (⟨(-9), 0⟩ : SWindow), (⟨(-9), 0⟩ : SWindow)]).length cz1) 27 (l1 ++ [(⟨(-9), 0⟩ : SWindow), (⟨(-9), 0⟩ : SWindow), (⟨(-9), 0⟩ : SWindow)])] := hS120
          have hS122 := hS121.bring 4 rfl
          have hS123 := hS122.bring 4 rfl
          have hS124 := hS123.bring 4 rfl
          have hS125 := hS124.bring 4 rfl
          have hS126 := hS125.bring 4 rfl
          obtain rfl := Option.some.inj h
          exact ge_nil fun a hF => hQ _ _ _ (Outs.again ⟨hS126, hF.weaken ⟨by kernel_rfl, by kernel_rfl, by kernel_rfl, by kernel_rfl, by kernel_rfl, by kernel_rfl, by kernel_rfl, by kernel_rfl, by kernel_rfl, by kernel_rfl, trivial⟩⟩)
        · rw [if_neg hc21] at h
          refine we_known (t := 117) (b := decide (x3 > 20000)) (v := false) (by kernel_rfl) (decide_eq_false hc21) ?_
          refine we_false (by kernel_rfl) ?_
          refine we_region [(0, 0), (1, 0), (2, 0), (3, 1), (4, 0), (5, 0), (6, 0), (7, 0)] rfl ?_
          rcases hq21 : punctualref_Lean.f K x0 l1 x3 with _ | r10
          · rw [hq21] at h; cases h
          rw [hq21] at h
          simp only [] at h
          refine ge_batch [0, 1, 2] (ans := []) (vs := [(121, .int .i64 x3), (120, .slice A1 l1.length c1), (119, .int .i64 x0)]) (l := []) (by kernel_rfl) trivial ?_
          refine ge_call (d := some 122) (f := 19) (args := #[.int .i64 x0, .slice A1 l1.length c1, .int .i64 x3]) (by kernel_rfl) (punctualref_Lean_ok K x0 l1 A1 c1 x3 _ (hS108.rd hR1) hL1 _ hq21) ?_
          rintro _ w37 ⟨v1, rfl, hS127⟩
          refine ⟨_, rfl, hS127.below, ?_⟩
          have hS128 := hS108.call hS127
          refine ge_batch [4] (ans := []) (vs := [(123, .int .i64 x3)]) (l := []) (by kernel_rfl) trivial ?_
          obtain ⟨Z2, cz2, rfl⟩ := hS128.open 0 rfl
          by_cases hc22 : 0 ≤ x3
          · rw [if_pos hc22] at h
            rcases hx6 : r10[(x3).toNat]? with _ | e1
            · rw [hx6] at h; cases h
            rw [hx6] at h
            simp only [] at h
            refine ge_index (d := 124) (ty := 0) (t := 38) (el := 3) (sz := 1) (m := r10.length) (c := cz2) (x := (.tmp 122)) (y := (.tmp 123)) (A := Z2) (k' := .i64) (j := x3) (jn := ((x3).toNat)) (b0 := blkOf Z2) (o0 := offOf Z2) (by kernel_rfl) (by kernel_rfl) (by kernel_rfl) (by kernel_rfl) (by kernel_rfl) ((hS128.rdAt 0 rfl).eqSome (pos_of_get hx6)) (Int.toNat_of_nonneg hc22).symm (lt_of_get hx6) ?_
            refine ge_batch [6, 7] (ans := [.val (.int .i64 e1)]) (vs := [(16, .int .i64 e1), (125, .int .i64 e1)]) (l := [.loaded ⟨blkOf Z2, offOf Z2 + ((x3).toNat) * 1, none⟩ (.int .i64 e1)]) (by kernel_rfl) ⟨RdL.cell (j := 0) (hS128.rdAt 0 rfl) hx6 rfl, trivial⟩ ?_
            have hS129 := hS128.bring 5 rfl
            have hS130 := hS129.bring 5 rfl
            have hS131 := hS130.bring 5 rfl
            have hS132 := hS131.bring 5 rfl
            have hS133 := hS132.bring 5 rfl
            have hS134 := hS133.takeN 5
            obtain rfl := Option.some.inj h
            exact ge_nil fun a hF => hQ _ _ _ (Outs.again ⟨hS134, hF.weaken ⟨by kernel_rfl, by kernel_rfl, by kernel_rfl, by kernel_rfl, by kernel_rfl, by kernel_rfl, by kernel_rfl, by kernel_rfl, by kernel_rfl, by kernel_rfl, trivial⟩⟩)
          · rw [if_neg hc22] at h
            cases h
    · rw [hq18] at h
      simp only [] at h
      refine we_keep (e' := [(0, .int .i64 x0), (1, .slice A1 l1.length c1), (2, .int .i64 x2), (3, .int .i64 x3), (9, .slice Z1 l1.length cz1), (10, .pointer (some ⟨b1, 0, none⟩)), (11, .int .i64 r7.1), (12, .pointer (some ⟨b2, 0, none⟩)), (13, .int .i64 r8.1), (14, .pointer (some ⟨b3, 0, none⟩)), (15, .int .i64 z7), (16, .int .i64 z8), (17, .pointer (some ⟨b8, 0, none⟩)), (18, .pointer (some ⟨b9, 0, none⟩)), (89, .pointer (some ⟨b1, 0, none⟩)), (90, .int .i64 r3.Code), (91, .bool true)]) ⟨by kernel_rfl, by kernel_rfl, by kernel_rfl, by kernel_rfl, by kernel_rfl, by kernel_rfl, by kernel_rfl, by kernel_rfl, by kernel_rfl, by kernel_rfl, by kernel_rfl, by kernel_rfl, by kernel_rfl, by kernel_rfl, by kernel_rfl, by kernel_rfl, by kernel_rfl, trivial⟩ (WindowsSupply_p4 K w0 x0 l1 A1 c1 x2 x3 hR1 hL1 hG0 r1 hc1 Z1 cz1 hcp1 r3 b1 r7 b2 r8 b3 z7 z8 b8 b9 z9 z10 z11 z12 hc15 _ hq18 _ hS _ ?_)
      rintro _ a w1 ⟨_, rfl, hb⟩
      obtain rfl := Option.some.inj h
      exact hQ _ _ _ (Outs.out nofun ⟨rfl, hb⟩)
  · rw [if_neg hc15] at h
    refine we_known (t := 91) (b := (r3.Code == 0)) (v := false) (by kernel_rfl) (beq_eq_false_iff_ne.2 hc15) ?_
    refine we_false (by kernel_rfl) ?_
    have hS135 := hS.bring 5 rfl
    have hS136 := hS135.bring 4 rfl
    have hS137 := hS136.bring 4 rfl
    have hS138 := hS137.bring 4 rfl
    have hS139 := hS138.bring 4 rfl
    have hS140 := hS139.takeN 5
    obtain rfl := Option.some.inj h
    exact we_skip fun a hF => hQ _ _ _ (Outs.again ⟨hS140, hF.weaken ⟨by kernel_rfl, by kernel_rfl, by kernel_rfl, by kernel_rfl, by kernel_rfl, by kernel_rfl, by kernel_rfl, by kernel_rfl, by kernel_rfl, by kernel_rfl, trivial⟩⟩)
theorem WindowsSupply_ok (K : Nat) (x0 : Int) (l1 : List SWindow) (A1 : Option Addr) (c1 : Nat) (x2 : Int) (x3 : Int) (w0 : World) (hR1 : RdL w0 A1 l1) (hL1 : l1.length ≤ c1) (hG0 : Glob w0 0 [.int .i64 (-9), .int .i64 0]) (r : Bool) (h : WindowsSupply.f K x0 l1 x2 x3 = some r) :
    Calls Tryd.prog 3 #[.int .i64 x0, .slice A1 l1.length c1, .int .i64 x2, .int .i64 x3] w0 (WindowsSupply.Post w0 r) := by
  have hS := St.start w0
  unfold WindowsSupply.f at h
  refine calls_enter (n := 150) (args := [.int .i64 x0, .slice A1 l1.length c1, .int .i64 x2, .int .i64 x3]) (fn := Tryd.f3) rfl rfl rfl rfl ?_
  show WE _ _ _ _ [(0, .int .i64 x0), (1, .slice A1 l1.length c1), (2, .int .i64 x2), (3, .int .i64 x3)] _
  refine we_seq fun K1 hK1 => ?_
  refine we_region [(0, 0)] rfl ?_
  refine ge_batch [0] (ans := []) (vs := [(8, .bool false)]) (l := []) (by kernel_rfl) trivial ?_
  refine ge_nil fun a hF => hK1 _ _ ?_ a hF
  refine we_seq fun K2 hK2 => ?_
  refine we_seq fun K3 hK3 => ?_
  refine we_region [(0, 1), (1, 0)] rfl ?_
  rcases hq1 : opens.f K with _ | r1
  · rw [hq1] at h; cases h
  rw [hq1] at h
  simp only [] at h
  refine ge_call (d := some 19) (f := 8) (args := #[]) (by kernel_rfl) (opens_ok K _ _ hq1) ?_
  rintro _ w1 ⟨rfl, hS1⟩
  refine ⟨_, rfl, hS1.below, ?_⟩
  have hS2 := hS.call hS1
  refine ge_batch [1] (ans := []) (vs := [(20, .bool (!r1))]) (l := []) (by kernel_rfl) trivial ?_
  refine ge_nil fun a hF => hK3 _ _ ?_ a hF
  by_cases hc1 : r1 = true
  · rw [if_pos hc1] at h
    refine we_known (t := 20) (b := !r1) (v := false) (by kernel_rfl) (congrArg (fun z => !z) hc1) ?_
    refine we_false (by kernel_rfl) ?_
    refine we_skip fun a hF => hK2 _ _ ?_ a hF
    refine we_seq fun K4 hK4 => ?_
    rcases hq3 : WindowsSupply.p0 x0 l1 x3 with _ | (_ | rr5)
    · rw [hq3] at h; cases h
    · rw [hq3] at h
      simp only [] at h
      refine we_keep (e' := [(0, .int .i64 x0), (1, .slice A1 l1.length c1), (2, .int .i64 x2), (3, .int .i64 x3), (8, .bool false), (19, .bool r1), (20, .bool false)]) ⟨by kernel_rfl, by kernel_rfl, by kernel_rfl, by kernel_rfl, by kernel_rfl, by kernel_rfl, by kernel_rfl, trivial⟩ (WindowsSupply_p0 K w0 x0 l1 A1 c1 x2 x3 hR1 hL1 hG0 r1 hc1 _ hq3 _ hS2 _ ?_)
      rintro _ a w3 ⟨rfl, hS5, hF⟩
      replace hS5 : St w0 w3 [] := hS5
      refine hK4 [(0, .int .i64 x0), (1, .slice A1 l1.length c1), (2, .int .i64 x2), (3, .int .i64 x3)] w3 ?_ a hF
      refine we_seq fun K10 hK10 => ?_
      refine we_region [(0, 0), (1, 0), (2, 1), (3, 0)] rfl ?_
      refine ge_batch [0, 1] (ans := [.val (.int .i64 (-9)), .val (.int .i64 0)]) (vs := [(42, .agg #[.int .i64 (-9), .int .i64 0]), (41, .slice A1 l1.length c1)]) (l := [.loaded ⟨0, 0, none⟩ (.int .i64 (-9)), .loaded ⟨0, 1, none⟩ (.int .i64 0)]) (by kernel_rfl) ⟨hS5.glob hG0 rfl, hS5.glob hG0 rfl, trivial⟩ ?_
      rcases hq4 : punctualsame_Lend_api_Window.f l1 (⟨(-9), 0⟩ : SWindow) with _ | r2
      · rw [hq4] at h; cases h
      rw [hq4] at h
      simp only [] at h
      obtain rfl := punctualsame_Lend_api_Window_full _ _ hq4
      refine ge_call (d := some 43) (f := 10) (args := #[.slice A1 l1.length c1, .agg #[.int .i64 (-9), .int .i64 0]]) (by kernel_rfl) (punctualsame_Lend_api_Window_ok l1 A1 c1 (⟨(-9), 0⟩ : SWindow) _ (hS5.rd hR1) hL1 _ hq4) ?_
      rintro _ w4 ⟨Z1, cz1, rfl, hcp1, hS6⟩
      refine ⟨_, rfl, hS6.below, ?_⟩
      have hS7 := hS5.call hS6
      refine ge_batch [3] (ans := []) (vs := [(9, .slice Z1 l1.length cz1)]) (l := []) (by kernel_rfl) trivial ?_
      refine ge_nil fun a hF => hK10 _ _ ?_ a hF
      refine we_seq fun K11 hK11 => ?_
      refine we_region [(0, 0), (1, 0), (2, 1), (3, 1), (4, 2)] rfl ?_
      rcases hq5 : punctualref_CheckFrame.f K x0 l1 with _ | r3
      · rw [hq5] at h; cases h
      rw [hq5] at h
      simp only [] at h
      refine ge_batch [0, 1] (ans := []) (vs := [(45, .slice A1 l1.length c1), (44, .int .i64 x0)]) (l := []) (by kernel_rfl) trivial ?_
      refine ge_call (d := some 46) (f := 11) (args := #[.int .i64 x0, .slice A1 l1.length c1]) (by kernel_rfl) (punctualref_CheckFrame_ok K x0 l1 A1 c1 _ (hS7.rd hR1) hL1 _ hq5) ?_
      rintro _ w5 ⟨rfl, hS8⟩
      refine ⟨_, rfl, hS8.below, ?_⟩
      have hS9 := hS7.call hS8
      refine ge_new (d := some 10) (o := .cells #[.int .i64 0, .int .i64 0] 30) (v := fun b => .pointer (some ⟨b, 0, none⟩)) hS9 (fun b => by kernel_rfl) fun b1 w6 hx1 hS10 => ?_
      refine ge_set (b := b1) (j := 0) (cs := #[.int .i64 0, .int .i64 0]) (t := 30) (vs := [.int .i64 r3.Code, .int .i64 r3.At]) hS10 (by kernel_rfl) rfl rfl fun w7 hS11 => ?_
      have hS12 : St w0 w7 [Own.blk b1 (.cells #[.int .i64 r3.Code, .int .i64 r3.At] 30 (0, 0)), Own.of (.slice Z1 (l1 ++ [(⟨(-9), 0⟩ : SWindow), (⟨(-9), 0⟩ : SWindow), (⟨(-9), 0⟩ : SWindow)]).length cz1) 27 (l1 ++ [(⟨(-9), 0⟩ : SWindow), (⟨(-9), 0⟩ : SWindow), (⟨(-9), 0⟩ : SWindow)])] := hS11
      refine ge_nil fun a hF => hK11 _ _ ?_ a hF
      refine we_seq fun K12 hK12 => ?_
      rcases hq9 : WindowsSupply.p1 K x0 l1 x2 r3 with _ | (_ | rr4)
      · rw [hq9] at h; cases h
      · rw [hq9] at h
        simp only [] at h
        refine we_keep (e' := [(0, .int .i64 x0), (1, .slice A1 l1.length c1), (2, .int .i64 x2), (3, .int .i64 x3), (9, .slice Z1 l1.length cz1), (10, .pointer (some ⟨b1, 0, none⟩)), (41, .slice A1 l1.length c1), (42, .agg #[.int .i64 (-9), .int .i64 0]), (43, .slice Z1 l1.length cz1), (44, .int .i64 x0), (45, .slice A1 l1.length c1), (46, .agg #[.int .i64 r3.Code, .int .i64 r3.At])]) ⟨by kernel_rfl, by kernel_rfl, by kernel_rfl, by kernel_rfl, by kernel_rfl, by kernel_rfl, by kernel_rfl, by kernel_rfl, by kernel_rfl, by kernel_rfl, by kernel_rfl, by kernel_rfl, trivial⟩ (WindowsSupply_p1 K w0 x0 l1 A1 c1 x2 x3 hR1 hL1 hG0 r1 hc1 Z1 cz1 hcp1 r3 b1 _ hq9 _ hS12 _ ?_)
        rintro _ a w11 ⟨rfl, hS30, hF⟩
        replace hS30 : St w0 w11 [Own.blk b1 (.cells #[.int .i64 r3.Code, .int .i64 r3.At] 30 (0, 0)), Own.of (.slice Z1 (l1 ++ [(⟨(-9), 0⟩ : SWindow), (⟨(-9), 0⟩ : SWindow), (⟨(-9), 0⟩ : SWindow)]).length cz1) 27 (l1 ++ [(⟨(-9), 0⟩ : SWindow), (⟨(-9), 0⟩ : SWindow), (⟨(-9), 0⟩ : SWindow)])] := hS30
        refine hK12 [(0, .int .i64 x0), (1, .slice A1 l1.length c1), (2, .int .i64 x2), (3, .int .i64 x3), (9, .slice Z1 l1.length cz1), (10, .pointer (some ⟨b1, 0, none⟩))] w11 ?_ a hF
        refine we_seq fun K18 hK18 => ?_
        refine we_region [(0, 0), (1, 0), (2, 0), (3, 0), (4, 1), (5, 0), (6, 0), (7, 0), (8, 1), (9, 0), (10, 2)] rfl ?_
        rcases hq10 : modes_Supply.f K x0 l1 x2 x3 with _ | r7
        · rw [hq10] at h; cases h
        rw [hq10] at h
        simp only [] at h
        refine ge_batch [0, 1, 2, 3] (ans := []) (vs := [(76, .int .i64 x3), (75, .int .i64 x2), (74, .slice Z1 l1.length cz1), (73, .int .i64 x0)]) (l := []) (by kernel_rfl) trivial ?_
        refine ge_call (d := some 77) (f := 15) (args := #[.int .i64 x0, .slice Z1 l1.length cz1, .int .i64 x2, .int .i64 x3]) (by kernel_rfl) (modes_Supply_ok K x0 l1 Z1 cz1 x2 x3 _ ((hS30.rdAt 1 rfl).pre) (by have h0 := hcp1; simp only [List.length_append, List.length_cons, List.length_nil] at h0; omega) _ hq10) ?_
        rintro _ w12 ⟨rfl, hS31⟩
        refine ⟨_, rfl, hS31.below, ?_⟩
        have hS32 := hS30.call hS31
        refine ge_batch [5, 6, 7] (ans := []) (vs := [(79, .agg #[.int .i64 r7.2.Code, .int .i64 r7.2.At]), (78, .int .i64 r7.1), (72, .tuple #[.int .i64 r7.1, .agg #[.int .i64 r7.2.Code, .int .i64 r7.2.At]])]) (l := []) (by kernel_rfl) trivial ?_
        refine ge_new (d := some 12) (o := .cells #[.int .i64 0, .int .i64 0] 30) (v := fun b => .pointer (some ⟨b, 0, none⟩)) hS32 (fun b => by kernel_rfl) fun b2 w13 hx2 hS33 => ?_
        refine ge_batch [9] (ans := []) (vs := [(11, .int .i64 r7.1)]) (l := []) (by kernel_rfl) trivial ?_
        refine ge_set (b := b2) (j := 0) (cs := #[.int .i64 0, .int .i64 0]) (t := 30) (vs := [.int .i64 r7.2.Code, .int .i64 r7.2.At]) hS33 (by kernel_rfl) rfl rfl fun w14 hS34 => ?_
        have hS35 : St w0 w14 [Own.blk b2 (.cells #[.int .i64 r7.2.Code, .int .i64 r7.2.At] 30 (0, 0)), Own.blk b1 (.cells #[.int .i64 r3.Code, .int .i64 r3.At] 30 (0, 0)), Own.of (.slice Z1 (l1 ++ [(⟨(-9), 0⟩ : SWindow), (⟨(-9), 0⟩ : SWindow), (⟨(-9), 0⟩ : SWindow)]).length cz1) 27 (l1 ++ [(⟨(-9), 0⟩ : SWindow), (⟨(-9), 0⟩ : SWindow), (⟨(-9), 0⟩ : SWindow)])] := hS34
        refine ge_nil fun a hF => hK18 _ _ ?_ a hF
        refine we_seq fun K19 hK19 => ?_
        refine we_region [(0, 0), (1, 0), (2, 0), (3, 1), (4, 0), (5, 0), (6, 0), (7, 1), (8, 0), (9, 2)] rfl ?_
        rcases hq11 : modes_Least.f K x0 l1 x3 with _ | r8
        · rw [hq11] at h; cases h
        rw [hq11] at h
        simp only [] at h
        refine ge_batch [0, 1, 2] (ans := []) (vs := [(83, .int .i64 x3), (82, .slice Z1 l1.length cz1), (81, .int .i64 x0)]) (l := []) (by kernel_rfl) trivial ?_
        refine ge_call (d := some 84) (f := 16) (args := #[.int .i64 x0, .slice Z1 l1.length cz1, .int .i64 x3]) (by kernel_rfl) (modes_Least_ok K x0 l1 Z1 cz1 x3 _ ((hS35.rdAt 2 rfl).pre) (by have h0 := hcp1; simp only [List.length_append, List.length_cons, List.length_nil] at h0; omega) _ hq11) ?_
        rintro _ w15 ⟨rfl, hS36⟩
        refine ⟨_, rfl, hS36.below, ?_⟩
        have hS37 := hS35.call hS36
        refine ge_batch [4, 5, 6] (ans := []) (vs := [(86, .agg #[.int .i64 r8.2.Code, .int .i64 r8.2.At]), (85, .int .i64 r8.1), (80, .tuple #[.int .i64 r8.1, .agg #[.int .i64 r8.2.Code, .int .i64 r8.2.At]])]) (l := []) (by kernel_rfl) trivial ?_
        refine ge_new (d := some 14) (o := .cells #[.int .i64 0, .int .i64 0] 30) (v := fun b => .pointer (some ⟨b, 0, none⟩)) hS37 (fun b => by kernel_rfl) fun b3 w16 hx3 hS38 => ?_
        refine ge_batch [8] (ans := []) (vs := [(13, .int .i64 r8.1)]) (l := []) (by kernel_rfl) trivial ?_
        refine ge_set (b := b3) (j := 0) (cs := #[.int .i64 0, .int .i64 0]) (t := 30) (vs := [.int .i64 r8.2.Code, .int .i64 r8.2.At]) hS38 (by kernel_rfl) rfl rfl fun w17 hS39 => ?_
        have hS40 : St w0 w17 [Own.blk b3 (.cells #[.int .i64 r8.2.Code, .int .i64 r8.2.At] 30 (0, 0)), Own.blk b2 (.cells #[.int .i64 r7.2.Code, .int .i64 r7.2.At] 30 (0, 0)), Own.blk b1 (.cells #[.int .i64 r3.Code, .int .i64 r3.At] 30 (0, 0)), Own.of (.slice Z1 (l1 ++ [(⟨(-9), 0⟩ : SWindow), (⟨(-9), 0⟩ : SWindow), (⟨(-9), 0⟩ : SWindow)]).length cz1) 27 (l1 ++ [(⟨(-9), 0⟩ : SWindow), (⟨(-9), 0⟩ : SWindow), (⟨(-9), 0⟩ : SWindow)])] := hS39
        refine ge_nil fun a hF => hK19 _ _ ?_ a hF
        refine we_seq fun K20 hK20 => ?_
        rcases hq12 : WindowsSupply.p2 r3 with _ | (⟨z7, z8, z9, z10, z11, z12⟩ | rr3)
        · rw [hq12] at h; cases h
        · rw [hq12] at h
          simp only [] at h
          refine we_keep (e' := [(0, .int .i64 x0), (1, .slice A1 l1.length c1), (2, .int .i64 x2), (3, .int .i64 x3), (9, .slice Z1 l1.length cz1), (10, .pointer (some ⟨b1, 0, none⟩)), (11, .int .i64 r7.1), (12, .pointer (some ⟨b2, 0, none⟩)), (13, .int .i64 r8.1), (14, .pointer (some ⟨b3, 0, none⟩)), (72, .tuple #[.int .i64 r7.1, .agg #[.int .i64 r7.2.Code, .int .i64 r7.2.At]]), (73, .int .i64 x0), (74, .slice Z1 l1.length cz1), (75, .int .i64 x2), (76, .int .i64 x3), (77, .tuple #[.int .i64 r7.1, .agg #[.int .i64 r7.2.Code, .int .i64 r7.2.At]]), (78, .int .i64 r7.1), (79, .agg #[.int .i64 r7.2.Code, .int .i64 r7.2.At]), (80, .tuple #[.int .i64 r8.1, .agg #[.int .i64 r8.2.Code, .int .i64 r8.2.At]]), (81, .int .i64 x0), (82, .slice Z1 l1.length cz1), (83, .int .i64 x3), (84, .tuple #[.int .i64 r8.1, .agg #[.int .i64 r8.2.Code, .int .i64 r8.2.At]]), (85, .int .i64 r8.1), (86, .agg #[.int .i64 r8.2.Code, .int .i64 r8.2.At])]) ⟨by kernel_rfl, by kernel_rfl, by kernel_rfl, by kernel_rfl, by kernel_rfl, by kernel_rfl, by kernel_rfl, by kernel_rfl, by kernel_rfl, by kernel_rfl, by kernel_rfl, by kernel_rfl, by kernel_rfl, by kernel_rfl, by kernel_rfl, by kernel_rfl, by kernel_rfl, by kernel_rfl, by kernel_rfl, by kernel_rfl, by kernel_rfl, by kernel_rfl, by kernel_rfl, by kernel_rfl, by kernel_rfl, trivial⟩ (WindowsSupply_p2 K w0 x0 l1 A1 c1 x2 x3 hR1 hL1 hG0 r1 hc1 Z1 cz1 hcp1 r3 b1 r7 b2 r8 b3 _ hq12 _ hS40 _ ?_)
          rintro _ a w22 ⟨rfl, b8, b9, hS55, hF⟩
          replace hS55 : St w0 w22 [Own.blk b8 (.cells #[.int .i64 z9, .int .i64 z10] 30 (0, 0)), Own.blk b9 (.cells #[.int .i64 z11, .int .i64 z12] 30 (0, 0)), Own.blk b3 (.cells #[.int .i64 r8.2.Code, .int .i64 r8.2.At] 30 (0, 0)), Own.blk b2 (.cells #[.int .i64 r7.2.Code, .int .i64 r7.2.At] 30 (0, 0)), Own.blk b1 (.cells #[.int .i64 r3.Code, .int .i64 r3.At] 30 (0, 0)), Own.of (.slice Z1 (l1 ++ [(⟨(-9), 0⟩ : SWindow), (⟨(-9), 0⟩ : SWindow), (⟨(-9), 0⟩ : SWindow)]).length cz1) 27 (l1 ++ [(⟨(-9), 0⟩ : SWindow), (⟨(-9), 0⟩ : SWindow), (⟨(-9), 0⟩ : SWindow)])] := hS55
          refine hK20 [(0, .int .i64 x0), (1, .slice A1 l1.length c1), (2, .int .i64 x2), (3, .int .i64 x3), (9, .slice Z1 l1.length cz1), (10, .pointer (some ⟨b1, 0, none⟩)), (11, .int .i64 r7.1), (12, .pointer (some ⟨b2, 0, none⟩)), (13, .int .i64 r8.1), (14, .pointer (some ⟨b3, 0, none⟩)), (15, .int .i64 z7), (16, .int .i64 z8), (17, .pointer (some ⟨b8, 0, none⟩)), (18, .pointer (some ⟨b9, 0, none⟩))] w22 ?_ a hF
          refine we_seq fun K21 hK21 => ?_
          rcases hq22 : WindowsSupply.p3 K x0 l1 x2 x3 r3 z7 z8 z9 z10 z11 z12 with _ | (⟨z25, z26, z27, z28, z29, z30⟩ | rr2)
          · rw [hq22] at h; cases h
          · rw [hq22] at h
            simp only [] at h
            refine we_keep (e' := [(0, .int .i64 x0), (1, .slice A1 l1.length c1), (2, .int .i64 x2), (3, .int .i64 x3), (9, .slice Z1 l1.length cz1), (10, .pointer (some ⟨b1, 0, none⟩)), (11, .int .i64 r7.1), (12, .pointer (some ⟨b2, 0, none⟩)), (13, .int .i64 r8.1), (14, .pointer (some ⟨b3, 0, none⟩)), (15, .int .i64 z7), (16, .int .i64 z8), (17, .pointer (some ⟨b8, 0, none⟩)), (18, .pointer (some ⟨b9, 0, none⟩))]) ⟨by kernel_rfl, by kernel_rfl, by kernel_rfl, by kernel_rfl, by kernel_rfl, by kernel_rfl, by kernel_rfl, by kernel_rfl, by kernel_rfl, by kernel_rfl, by kernel_rfl, by kernel_rfl, by kernel_rfl, by kernel_rfl, trivial⟩ (WindowsSupply_p3 K w0 x0 l1 A1 c1 x2 x3 hR1 hL1 hG0 r1 hc1 Z1 cz1 hcp1 r3 b1 r7 b2 r8 b3 z7 z8 b8 b9 z9 z10 z11 z12 _ hq22 _ hS55 _ ?_)
            rintro _ a w38 ⟨rfl, hS141, hF⟩
            replace hS141 : St w0 w38 [Own.blk b8 (.cells #[.int .i64 z27, .int .i64 z28] 30 (0, 0)), Own.blk b9 (.cells #[.int .i64 z29, .int .i64 z30] 30 (0, 0)), Own.blk b3 (.cells #[.int .i64 r8.2.Code, .int .i64 r8.2.At] 30 (0, 0)), Own.blk b2 (.cells #[.int .i64 r7.2.Code, .int .i64 r7.2.At] 30 (0, 0)), Own.of (.slice Z1 (l1 ++ [(⟨(-9), 0⟩ : SWindow), (⟨(-9), 0⟩ : SWindow), (⟨(-9), 0⟩ : SWindow)]).length cz1) 27 (l1 ++ [(⟨(-9), 0⟩ : SWindow), (⟨(-9), 0⟩ : SWindow), (⟨(-9), 0⟩ : SWindow)])] := hS141
            refine hK21 [(1, .slice A1 l1.length c1), (9, .slice Z1 l1.length cz1), (11, .int .i64 r7.1), (12, .pointer (some ⟨b2, 0, none⟩)), (13, .int .i64 r8.1), (14, .pointer (some ⟨b3, 0, none⟩)), (15, .int .i64 z25), (16, .int .i64 z26), (17, .pointer (some ⟨b8, 0, none⟩)), (18, .pointer (some ⟨b9, 0, none⟩))] w38 ?_ a hF
            refine we_seq fun K26 hK26 => ?_
            refine we_region [(0, 0), (1, 0), (2, 0), (3, 0), (4, 0), (5, 0), (6, 0), (7, 0), (8, 0), (9, 0), (10, 0), (11, 0), (12, 0), (13, 0), (14, 0), (15, 0), (16, 0), (17, 0), (18, 0), (19, 0), (20, 0), (21, 0), (22, 1), (23, 0), (24, 0)] rfl ?_
            refine ge_batch [0, 1, 2, 3] (ans := []) (vs := [(129, .bool (r7.1 == z25)), (128, .bool (r7.1 == z25)), (127, .int .i64 z25), (126, .int .i64 r7.1)]) (l := []) (by kernel_rfl) trivial ?_
            by_cases hc23 : r7.1 = z25
            · rw [if_pos hc23] at h
              refine ge_known (t := 129) (b := (r7.1 == z25)) (c := true) (by kernel_rfl) (beq_iff_eq.2 hc23) ?_
              refine ge_batch [4, 5] (ans := [.val (.int .i64 r7.2.Code), .val (.int .i64 r7.2.At), .val (.int .i64 z29), .val (.int .i64 z30)]) (vs := [(131, .agg #[.int .i64 z29, .int .i64 z30]), (130, .agg #[.int .i64 r7.2.Code, .int .i64 r7.2.At])]) (l := [.loaded ⟨b2, 0, none⟩ (.int .i64 r7.2.Code), .loaded ⟨b2, 1, none⟩ (.int .i64 r7.2.At), .loaded ⟨b9, 0, none⟩ (.int .i64 z29), .loaded ⟨b9, 1, none⟩ (.int .i64 z30)]) (by kernel_rfl) ⟨hS141.cell 3 rfl rfl, hS141.cell 3 rfl rfl, hS141.cell 1 rfl rfl, hS141.cell 1 rfl rfl, trivial⟩ ?_
              refine ge_eqs (d := 132) (ty := 4) (op := .eql) (x := (.tmp 130)) (y := (.tmp 131)) (t := 30) (t2 := 30) (xs := #[.int .i64 r7.2.Code, .int .i64 r7.2.At]) (ys := #[.int .i64 z29, .int .i64 z30]) (r := (SFault.eqb r7.2 (⟨z29, z30⟩ : SFault))) (v := (SFault.eqb r7.2 (⟨z29, z30⟩ : SFault))) (by kernel_rfl) (by kernel_rfl) (by kernel_rfl) (by kernel_rfl) (by kernel_rfl) rfl ?_
              refine ge_batch [7, 8] (ans := []) (vs := [(134, .bool (SFault.eqb r7.2 (⟨z29, z30⟩ : SFault))), (133, .bool (SFault.eqb r7.2 (⟨z29, z30⟩ : SFault)))]) (l := []) (by kernel_rfl) trivial ?_
              by_cases hc24 : (SFault.eqb r7.2 (⟨z29, z30⟩ : SFault)) = true
              · rw [if_pos hc24] at h
                refine ge_known (t := 134) (b := (SFault.eqb r7.2 (⟨z29, z30⟩ : SFault))) (c := true) (by kernel_rfl) hc24 ?_
                refine ge_batch [9, 10, 11, 12, 13] (ans := []) (vs := [(139, .bool (r8.1 == z26)), (138, .bool (r8.1 == z26)), (137, .bool (r8.1 == z26)), (136, .int .i64 z26), (135, .int .i64 r8.1)]) (l := []) (by kernel_rfl) trivial ?_
                by_cases hc25 : r8.1 = z26
                · rw [if_pos hc25] at h
                  refine ge_known (t := 139) (b := (r8.1 == z26)) (c := true) (by kernel_rfl) (beq_iff_eq.2 hc25) ?_
                  refine ge_batch [14, 15] (ans := [.val (.int .i64 r8.2.Code), .val (.int .i64 r8.2.At), .val (.int .i64 z27), .val (.int .i64 z28)]) (vs := [(141, .agg #[.int .i64 z27, .int .i64 z28]), (140, .agg #[.int .i64 r8.2.Code, .int .i64 r8.2.At])]) (l := [.loaded ⟨b3, 0, none⟩ (.int .i64 r8.2.Code), .loaded ⟨b3, 1, none⟩ (.int .i64 r8.2.At), .loaded ⟨b8, 0, none⟩ (.int .i64 z27), .loaded ⟨b8, 1, none⟩ (.int .i64 z28)]) (by kernel_rfl) ⟨hS141.cell 2 rfl rfl, hS141.cell 2 rfl rfl, hS141.cell 0 rfl rfl, hS141.cell 0 rfl rfl, trivial⟩ ?_
                  refine ge_eqs (d := 142) (ty := 4) (op := .eql) (x := (.tmp 140)) (y := (.tmp 141)) (t := 30) (t2 := 30) (xs := #[.int .i64 r8.2.Code, .int .i64 r8.2.At]) (ys := #[.int .i64 z27, .int .i64 z28]) (r := (SFault.eqb r8.2 (⟨z27, z28⟩ : SFault))) (v := (SFault.eqb r8.2 (⟨z27, z28⟩ : SFault))) (by kernel_rfl) (by kernel_rfl) (by kernel_rfl) (by kernel_rfl) (by kernel_rfl) rfl ?_
                  refine ge_batch [17, 18] (ans := []) (vs := [(144, .bool (SFault.eqb r8.2 (⟨z27, z28⟩ : SFault))), (143, .bool (SFault.eqb r8.2 (⟨z27, z28⟩ : SFault)))]) (l := []) (by kernel_rfl) trivial ?_
                  by_cases hc26 : (SFault.eqb r8.2 (⟨z27, z28⟩ : SFault)) = true
                  · rw [if_pos hc26] at h
                    refine ge_known (t := 144) (b := (SFault.eqb r8.2 (⟨z27, z28⟩ : SFault))) (c := true) (by kernel_rfl) hc26 ?_
                    refine ge_batch [19, 20, 21] (ans := [.val (.int .i64 (-9)), .val (.int .i64 0)]) (vs := [(147, .agg #[.int .i64 (-9), .int .i64 0]), (146, .slice A1 l1.length c1), (145, .slice Z1 l1.length cz1)]) (l := [.loaded ⟨0, 0, none⟩ (.int .i64 (-9)), .loaded ⟨0, 1, none⟩ (.int .i64 0)]) (by kernel_rfl) ⟨hS141.glob hG0 rfl, hS141.glob hG0 rfl, trivial⟩ ?_
                    rcases hq23 : punctualsame_Still_api_Window.f K (l1 ++ [(⟨(-9), 0⟩ : SWindow), (⟨(-9), 0⟩ : SWindow), (⟨(-9), 0⟩ : SWindow)]) l1 (⟨(-9), 0⟩ : SWindow) with _ | r11
                    · rw [hq23] at h; cases h
                    rw [hq23] at h
                    simp only [] at h
                    refine ge_call (d := some 148) (f := 20) (args := #[.slice Z1 l1.length cz1, .slice A1 l1.length c1, .agg #[.int .i64 (-9), .int .i64 0]]) (by kernel_rfl) (punctualsame_Still_api_Window_ok K (l1 ++ [(⟨(-9), 0⟩ : SWindow), (⟨(-9), 0⟩ : SWindow), (⟨(-9), 0⟩ : SWindow)]) Z1 l1.length cz1 l1 A1 c1 (⟨(-9), 0⟩ : SWindow) _ (hS141.rdAt 4 rfl) hcp1 (hS141.rd hR1) hL1 _ hq23) ?_
                    rintro _ w39 ⟨rfl, hS142⟩
                    refine ⟨_, rfl, hS142.below, ?_⟩
                    have hS143 := hS141.call hS142
                    refine ge_batch [23, 24] (ans := []) (vs := [(8, .bool r11), (149, .bool r11)]) (l := []) (by kernel_rfl) trivial ?_
                    refine ge_nil fun a hF => hK26 _ _ ?_ a hF
                    have hS144 := hS143.takeN 0
                    obtain rfl := Option.some.inj h
                    exact we_ret (post_ret (rs := [.tmp 8]) (ans := []) (vs := [.bool r11]) (l := []) rfl (by kernel_rfl) trivial ⟨rfl, hS144⟩)
                  · rw [if_neg hc26] at h
                    refine ge_known (t := 144) (b := (SFault.eqb r8.2 (⟨z27, z28⟩ : SFault))) (c := false) (by kernel_rfl) (Bool.eq_false_iff.2 hc26) ?_
                    refine ge_batch [19, 20, 21] (ans := []) (vs := [(147, undef), (146, undef), (145, undef)]) (l := []) (by kernel_rfl) trivial ?_
                    refine ge_off rfl rfl rfl (by kernel_rfl) ?_
                    refine ge_batch [23, 24] (ans := []) (vs := [(8, .bool false), (149, .bool false)]) (l := []) (by kernel_rfl) trivial ?_
                    refine ge_nil fun a hF => hK26 _ _ ?_ a hF
                    have hS145 := hS141.takeN 0
                    obtain rfl := Option.some.inj h
                    exact we_ret (post_ret (rs := [.tmp 8]) (ans := []) (vs := [.bool false]) (l := []) rfl (by kernel_rfl) trivial ⟨rfl, hS145⟩)
                · rw [if_neg hc25] at h
                  refine ge_known (t := 139) (b := (r8.1 == z26)) (c := false) (by kernel_rfl) (beq_eq_false_iff_ne.2 hc25) ?_
                  refine ge_batch [14, 15, 16, 17, 18, 19, 20, 21] (ans := []) (vs := [(147, undef), (146, undef), (145, undef), (144, .bool false), (143, .bool false), (142, undef), (141, undef), (140, undef)]) (l := []) (by kernel_rfl) trivial ?_
                  refine ge_off rfl rfl rfl (by kernel_rfl) ?_
                  refine ge_batch [23, 24] (ans := []) (vs := [(8, .bool false), (149, .bool false)]) (l := []) (by kernel_rfl) trivial ?_
                  refine ge_nil fun a hF => hK26 _ _ ?_ a hF
                  have hS146 := hS141.takeN 0
                  obtain rfl := Option.some.inj h
                  exact we_ret (post_ret (rs := [.tmp 8]) (ans := []) (vs := [.bool false]) (l := []) rfl (by kernel_rfl) trivial ⟨rfl, hS146⟩)
              · rw [if_neg hc24] at h
                refine ge_known (t := 134) (b := (SFault.eqb r7.2 (⟨z29, z30⟩ : SFault))) (c := false) (by kernel_rfl) (Bool.eq_false_iff.2 hc24) ?_
                refine ge_batch [9, 10, 11, 12, 13, 14, 15, 16, 17, 18, 19, 20, 21] (ans := []) (vs := [(147, undef), (146, undef), (145, undef), (144, .bool false), (143, .bool false), (142, undef), (141, undef), (140, undef), (139, .bool false), (138, .bool false), (137, undef), (136, undef), (135, undef)]) (l := []) (by kernel_rfl) trivial ?_
                refine ge_off rfl rfl rfl (by kernel_rfl) ?_
                refine ge_batch [23, 24] (ans := []) (vs := [(8, .bool false), (149, .bool false)]) (l := []) (by kernel_rfl) trivial ?_
                refine ge_nil fun a hF => hK26 _ _ ?_ a hF
                have hS147 := hS141.takeN 0
                obtain rfl := Option.some.inj h
                exact we_ret (post_ret (rs := [.tmp 8]) (ans := []) (vs := [.bool false]) (l := []) rfl (by kernel_rfl) trivial ⟨rfl, hS147⟩)
            · rw [if_neg hc23] at h
              refine ge_known (t := 129) (b := (r7.1 == z25)) (c := false) (by kernel_rfl) (beq_eq_false_iff_ne.2 hc23) ?_
              refine ge_batch [4, 5, 6, 7, 8, 9, 10, 11, 12, 13, 14, 15, 16, 17, 18, 19, 20, 21] (ans := []) (vs := [(147, undef), (146, undef), (145, undef), (144, .bool false), (143, .bool false), (142, undef), (141, undef), (140, undef), (139, .bool false), (138, .bool false), (137, undef), (136, undef), (135, undef), (134, .bool false), (133, .bool false), (132, undef), (131, undef), (130, undef)]) (l := []) (by kernel_rfl) trivial ?_
              refine ge_off rfl rfl rfl (by kernel_rfl) ?_
              refine ge_batch [23, 24] (ans := []) (vs := [(8, .bool false), (149, .bool false)]) (l := []) (by kernel_rfl) trivial ?_
              refine ge_nil fun a hF => hK26 _ _ ?_ a hF
              have hS148 := hS141.takeN 0
              obtain rfl := Option.some.inj h
              exact we_ret (post_ret (rs := [.tmp 8]) (ans := []) (vs := [.bool false]) (l := []) rfl (by kernel_rfl) trivial ⟨rfl, hS148⟩)
          · rw [hq22] at h
            simp only [] at h
            refine we_keep (e' := [(0, .int .i64 x0), (1, .slice A1 l1.length c1), (2, .int .i64 x2), (3, .int .i64 x3), (9, .slice Z1 l1.length cz1), (10, .pointer (some ⟨b1, 0, none⟩)), (11, .int .i64 r7.1), (12, .pointer (some ⟨b2, 0, none⟩)), (13, .int .i64 r8.1), (14, .pointer (some ⟨b3, 0, none⟩)), (15, .int .i64 z7), (16, .int .i64 z8), (17, .pointer (some ⟨b8, 0, none⟩)), (18, .pointer (some ⟨b9, 0, none⟩))]) ⟨by kernel_rfl, by kernel_rfl, by kernel_rfl, by kernel_rfl, by kernel_rfl, by kernel_rfl, by kernel_rfl, by kernel_rfl, by kernel_rfl, by kernel_rfl, by kernel_rfl, by kernel_rfl, by kernel_rfl, by kernel_rfl, trivial⟩ (WindowsSupply_p3 K w0 x0 l1 A1 c1 x2 x3 hR1 hL1 hG0 r1 hc1 Z1 cz1 hcp1 r3 b1 r7 b2 r8 b3 z7 z8 b8 b9 z9 z10 z11 z12 _ hq22 _ hS55 _ ?_)
            rintro _ a w1 ⟨_, rfl, hb⟩
            obtain rfl := Option.some.inj h
            exact hb
        · rw [hq12] at h
          simp only [] at h
          refine we_keep (e' := [(0, .int .i64 x0), (1, .slice A1 l1.length c1), (2, .int .i64 x2), (3, .int .i64 x3), (9, .slice Z1 l1.length cz1), (10, .pointer (some ⟨b1, 0, none⟩)), (11, .int .i64 r7.1), (12, .pointer (some ⟨b2, 0, none⟩)), (13, .int .i64 r8.1), (14, .pointer (some ⟨b3, 0, none⟩)), (72, .tuple #[.int .i64 r7.1, .agg #[.int .i64 r7.2.Code, .int .i64 r7.2.At]]), (73, .int .i64 x0), (74, .slice Z1 l1.length cz1), (75, .int .i64 x2), (76, .int .i64 x3), (77, .tuple #[.int .i64 r7.1, .agg #[.int .i64 r7.2.Code, .int .i64 r7.2.At]]), (78, .int .i64 r7.1), (79, .agg #[.int .i64 r7.2.Code, .int .i64 r7.2.At]), (80, .tuple #[.int .i64 r8.1, .agg #[.int .i64 r8.2.Code, .int .i64 r8.2.At]]), (81, .int .i64 x0), (82, .slice Z1 l1.length cz1), (83, .int .i64 x3), (84, .tuple #[.int .i64 r8.1, .agg #[.int .i64 r8.2.Code, .int .i64 r8.2.At]]), (85, .int .i64 r8.1), (86, .agg #[.int .i64 r8.2.Code, .int .i64 r8.2.At])]) ⟨by kernel_rfl, by kernel_rfl, by kernel_rfl, by kernel_rfl, by kernel_rfl, by kernel_rfl, by kernel_rfl, by kernel_rfl, by kernel_rfl, by kernel_rfl, by kernel_rfl, by kernel_rfl, by kernel_rfl, by kernel_rfl, by kernel_rfl, by kernel_rfl, by kernel_rfl, by kernel_rfl, by kernel_rfl, by kernel_rfl, by kernel_rfl, by kernel_rfl, by kernel_rfl, by kernel_rfl, by kernel_rfl, trivial⟩ (WindowsSupply_p2 K w0 x0 l1 A1 c1 x2 x3 hR1 hL1 hG0 r1 hc1 Z1 cz1 hcp1 r3 b1 r7 b2 r8 b3 _ hq12 _ hS40 _ ?_)
          rintro _ a w1 ⟨_, rfl, hb⟩
          obtain rfl := Option.some.inj h
          exact hb
      · rw [hq9] at h
        simp only [] at h
        refine we_keep (e' := [(0, .int .i64 x0), (1, .slice A1 l1.length c1), (2, .int .i64 x2), (3, .int .i64 x3), (9, .slice Z1 l1.length cz1), (10, .pointer (some ⟨b1, 0, none⟩)), (41, .slice A1 l1.length c1), (42, .agg #[.int .i64 (-9), .int .i64 0]), (43, .slice Z1 l1.length cz1), (44, .int .i64 x0), (45, .slice A1 l1.length c1), (46, .agg #[.int .i64 r3.Code, .int .i64 r3.At])]) ⟨by kernel_rfl, by kernel_rfl, by kernel_rfl, by kernel_rfl, by kernel_rfl, by kernel_rfl, by kernel_rfl, by kernel_rfl, by kernel_rfl, by kernel_rfl, by kernel_rfl, by kernel_rfl, trivial⟩ (WindowsSupply_p1 K w0 x0 l1 A1 c1 x2 x3 hR1 hL1 hG0 r1 hc1 Z1 cz1 hcp1 r3 b1 _ hq9 _ hS12 _ ?_)
        rintro _ a w1 ⟨_, rfl, hb⟩
        obtain rfl := Option.some.inj h
        exact hb
    · rw [hq3] at h
      simp only [] at h
      refine we_keep (e' := [(0, .int .i64 x0), (1, .slice A1 l1.length c1), (2, .int .i64 x2), (3, .int .i64 x3), (8, .bool false), (19, .bool r1), (20, .bool false)]) ⟨by kernel_rfl, by kernel_rfl, by kernel_rfl, by kernel_rfl, by kernel_rfl, by kernel_rfl, by kernel_rfl, trivial⟩ (WindowsSupply_p0 K w0 x0 l1 A1 c1 x2 x3 hR1 hL1 hG0 r1 hc1 _ hq3 _ hS2 _ ?_)
      rintro _ a w1 ⟨_, rfl, hb⟩
      obtain rfl := Option.some.inj h
      exact hb
  · rw [if_neg hc1] at h
    refine we_known (t := 20) (b := !r1) (v := true) (by kernel_rfl) (congrArg (fun z => !z) (Bool.eq_false_iff.2 hc1)) ?_
    refine we_true (by kernel_rfl) ?_
    refine we_seq fun K27 hK27 => ?_
    refine we_region [(0, 0)] rfl ?_
    refine ge_batch [0] (ans := []) (vs := [(8, .bool false)]) (l := []) (by kernel_rfl) trivial ?_
    refine ge_nil fun a hF => hK27 _ _ ?_ a hF
    obtain rfl := Option.some.inj h
    exact we_ret (post_ret (rs := [.tmp 8]) (ans := []) (vs := [.bool false]) (l := []) rfl (by kernel_rfl) trivial ⟨rfl, hS2⟩)
end Go.Proofs.YtlcndfafkegjgaaDoor.GV
