/- Walks of single functions, written by a program of this work. -/
import Derived.Test.YtnckikjcjgmdlaaGWWcetLeast1
namespace Go.Proofs.Ytnckikjcjgmdlaa.GV
open Go Go.RowKit
set_option linter.unusedVariables false
set_option linter.unusedSimpArgs false
set_option maxRecDepth 100000

/-! punctual/mach.heights -/
abbrev mach_heights.Post (w0 : World) (r : SFault) (e : Ending) (w : World) : Prop := e = .returned (.agg #[.int .i64 r.Code, .int .i64 r.At]) ∧ St w0 w []
def mach_heights.r0 (l0 : List SIns) : Int × (List Int) → Option ((Int × (List Int)) ⊕ ((List Int) ⊕ SFault))
  | (z1, m1) =>
    if z1 < ((List.replicate ((IntKind.i64.wrap ((l0.length : Int) + 1)).toNat) (0 : Int)).length : Int) then
      if 0 ≤ z1 then
        match m1[(z1).toNat]? with
        | none => none
        | some e1 =>
          some (.inl (IntKind.i64.wrap (z1 + 1), (m1.set ((z1).toNat) (-1))))
      else
        none
    else
      some (.inr (.inl m1))
def mach_heights.p2 (m4 : List Int) (e3 : SIns) (e4 : Int) : Option ((Bool × (List Int)) ⊕ SFault) :=
    if e3.Op = 11 then
      if (IntKind.i64.wrap ((IntKind.i64.wrap (e4 - ((mach_pops.f e3.Op).1))) + ((mach_pops.f e3.Op).2))) ≤ 20 then
        match mach_heights_1.f e3.A (IntKind.i64.wrap (e4 + (IntKind.i64.wrap (((mach_pops.f e3.Op).2) - ((mach_pops.f e3.Op).1))))) m4 with
        | none => none
        | some r1 =>
          some (.inl (r1.1, r1.2))
      else
        some (.inl (false, m4))
    else
      if e3.Op = 12 then
        if (IntKind.i64.wrap ((IntKind.i64.wrap (e4 - ((mach_pops.f e3.Op).1))) + ((mach_pops.f e3.Op).2))) ≤ 20 then
          match mach_heights_1.f e3.A (IntKind.i64.wrap (e4 + (IntKind.i64.wrap (((mach_pops.f e3.Op).2) - ((mach_pops.f e3.Op).1))))) m4 with
          | none => none
          | some r2 =>
            some (.inl (r2.1, r2.2))
        else
          some (.inl (false, m4))
      else
        some (.inl (decide ((IntKind.i64.wrap ((IntKind.i64.wrap (e4 - ((mach_pops.f e3.Op).1))) + ((mach_pops.f e3.Op).2))) ≤ 20), m4))
def mach_heights.p3 (m4 : List Int) (e3 : SIns) : Option ((Bool × (List Int)) ⊕ SFault) :=
    if e3.Op = 11 then
      some (.inl (false, m4))
    else
      if e3.Op = 12 then
        some (.inl (false, m4))
      else
        some (.inl (false, m4))
def mach_heights.r1 (l0 : List SIns) : Nat × (List Int) → Option ((Nat × (List Int)) ⊕ ((List Int) ⊕ SFault))
  | (i1, m4) =>
    if (i1 : Int) < (l0.length : Int) then
      match l0[i1]? with
      | none => none
      | some e3 =>
        match m4[i1]? with
        | none => none
        | some e4 =>
          if e4 < 0 then
            some (.inr (.inr (⟨7, (i1 : Int)⟩ : SFault)))
          else
            if e4 ≥ ((mach_pops.f e3.Op).1) then
              match mach_heights.p2 m4 e3 e4 with
              | none => none
              | some (.inl (q2, m7)) =>
                if e3.Op = 14 then
                  if q2 = true then
                    if 0 ≤ e3.B then
                      match m7[(e3.B).toNat]? with
                      | none => none
                      | some e5 =>
                        if e3.Op = 11 then
                          if e5 = (IntKind.i64.wrap (e4 + (IntKind.i64.wrap (((mach_pops.f e3.Op).2) - ((mach_pops.f e3.Op).1))))) then
                            some (.inl ((i1 + 1), m7))
                          else
                            some (.inr (.inr (⟨8, (i1 : Int)⟩ : SFault)))
                        else
                          if e5 = (IntKind.i64.wrap (e4 + (IntKind.i64.wrap (((mach_pops.f e3.Op).2) - ((mach_pops.f e3.Op).1))))) then
                            match mach_heights_1.f ((i1 + 1 : Nat) : Int) (IntKind.i64.wrap (e4 + (IntKind.i64.wrap (((mach_pops.f e3.Op).2) - ((mach_pops.f e3.Op).1))))) m7 with
                            | none => none
                            | some r3 =>
                              if r3.1 = true then
                                some (.inl ((i1 + 1), r3.2))
                              else
                                some (.inr (.inr (⟨8, (i1 : Int)⟩ : SFault)))
                          else
                            some (.inr (.inr (⟨8, (i1 : Int)⟩ : SFault)))
                    else
                      none
                  else
                    if e3.Op = 11 then
                      some (.inr (.inr (⟨8, (i1 : Int)⟩ : SFault)))
                    else
                      some (.inr (.inr (⟨8, (i1 : Int)⟩ : SFault)))
                else
                  if e3.Op = 11 then
                    if q2 = true then
                      some (.inl ((i1 + 1), m7))
                    else
                      some (.inr (.inr (⟨8, (i1 : Int)⟩ : SFault)))
                  else
                    if q2 = true then
                      match mach_heights_1.f ((i1 + 1 : Nat) : Int) (IntKind.i64.wrap (e4 + (IntKind.i64.wrap (((mach_pops.f e3.Op).2) - ((mach_pops.f e3.Op).1))))) m7 with
                      | none => none
                      | some r4 =>
                        if r4.1 = true then
                          some (.inl ((i1 + 1), r4.2))
                        else
                          some (.inr (.inr (⟨8, (i1 : Int)⟩ : SFault)))
                    else
                      some (.inr (.inr (⟨8, (i1 : Int)⟩ : SFault)))
              | some (.inr rr1) =>
                some (.inr (.inr rr1))
            else
              match mach_heights.p3 m4 e3 with
              | none => none
              | some (.inl (q4, m9)) =>
                if e3.Op = 14 then
                  if q4 = true then
                    if 0 ≤ e3.B then
                      match m9[(e3.B).toNat]? with
                      | none => none
                      | some e6 =>
                        if e3.Op = 11 then
                          if e6 = (IntKind.i64.wrap (e4 + (IntKind.i64.wrap (((mach_pops.f e3.Op).2) - ((mach_pops.f e3.Op).1))))) then
                            some (.inl ((i1 + 1), m9))
                          else
                            some (.inr (.inr (⟨8, (i1 : Int)⟩ : SFault)))
                        else
                          if e6 = (IntKind.i64.wrap (e4 + (IntKind.i64.wrap (((mach_pops.f e3.Op).2) - ((mach_pops.f e3.Op).1))))) then
                            match mach_heights_1.f ((i1 + 1 : Nat) : Int) (IntKind.i64.wrap (e4 + (IntKind.i64.wrap (((mach_pops.f e3.Op).2) - ((mach_pops.f e3.Op).1))))) m9 with
                            | none => none
                            | some r5 =>
                              if r5.1 = true then
                                some (.inl ((i1 + 1), r5.2))
                              else
                                some (.inr (.inr (⟨8, (i1 : Int)⟩ : SFault)))
                          else
                            some (.inr (.inr (⟨8, (i1 : Int)⟩ : SFault)))
                    else
                      none
                  else
                    if e3.Op = 11 then
                      some (.inr (.inr (⟨8, (i1 : Int)⟩ : SFault)))
                    else
                      some (.inr (.inr (⟨8, (i1 : Int)⟩ : SFault)))
                else
                  if e3.Op = 11 then
                    if q4 = true then
                      some (.inl ((i1 + 1), m9))
                    else
                      some (.inr (.inr (⟨8, (i1 : Int)⟩ : SFault)))
                  else
                    if q4 = true then
                      match mach_heights_1.f ((i1 + 1 : Nat) : Int) (IntKind.i64.wrap (e4 + (IntKind.i64.wrap (((mach_pops.f e3.Op).2) - ((mach_pops.f e3.Op).1))))) m9 with
                      | none => none
                      | some r6 =>
                        if r6.1 = true then
                          some (.inl ((i1 + 1), r6.2))
                        else
                          some (.inr (.inr (⟨8, (i1 : Int)⟩ : SFault)))
                    else
                      some (.inr (.inr (⟨8, (i1 : Int)⟩ : SFault)))
              | some (.inr rr2) =>
                some (.inr (.inr rr2))
    else
      some (.inr (.inl m4))
def mach_heights.f (K : Nat) (l0 : List SIns) : Option SFault :=
  if 0 ≤ (IntKind.i64.wrap ((l0.length : Int) + 1)) then
    if ((IntKind.i64.wrap ((l0.length : Int) + 1)).toNat) ≤ 17592186044416 then
      match iter (mach_heights.r0 l0) K (0, (List.replicate ((IntKind.i64.wrap ((l0.length : Int) + 1)).toNat) (0 : Int))) with
      | none => none
      | some (.inl m3) =>
        match m3[0]? with
        | none => none
        | some e2 =>
          match iter (mach_heights.r1 l0) K (0, (m3.set 0 0)) with
          | none => none
          | some (.inl m10) =>
            match m10[l0.length]? with
            | none => none
            | some e7 =>
              if e7 > 0 then
                some (⟨8, (l0.length : Int)⟩ : SFault)
              else
                some (⟨0, 0⟩ : SFault)
          | some (.inr rr3) =>
            some rr3
      | some (.inr rr4) =>
        some rr4
    else
      none
  else
    none
abbrev mach_heights.A0 (K : Nat) (w0 : World) (l0 : List SIns) (A0 : Option Addr) (c0 : Nat) (hR0 : RdL w0 A0 l0) (hL0 : l0.length ≤ c0) (b1 : Nat) (hc1 : 0 ≤ (IntKind.i64.wrap ((l0.length : Int) + 1))) (hc2 : ((IntKind.i64.wrap ((l0.length : Int) + 1)).toNat) ≤ 17592186044416) (b2 : Nat) (Z1 : Option Addr) (cz1 : Nat) : (Int × (List Int)) → Act → World → Prop := fun (s : Int × (List Int)) a w => St w0 w [Own.blk b2 (.cells #[(.slice Z1 s.2.length cz1)] 24 (0, 0)), Own.blk b1 (.cells #[.int .i64 0, .int .i64 0] 40 (0, 0)), Own.of (.slice Z1 s.2.length cz1) 3 s.2] ∧ Frm 120 a [(0, .slice A0 l0.length c0), (2, .pointer (some ⟨b1, 0, none⟩)), (3, .pointer (some ⟨b2, 0, none⟩)), (17, .int .i64 ((List.replicate ((IntKind.i64.wrap ((l0.length : Int) + 1)).toNat) (0 : Int)).length : Int)), (18, .int .i64 s.1)]
abbrev mach_heights.B0 (K : Nat) (w0 : World) (l0 : List SIns) (A0 : Option Addr) (c0 : Nat) (hR0 : RdL w0 A0 l0) (hL0 : l0.length ≤ c0) (b1 : Nat) (hc1 : 0 ≤ (IntKind.i64.wrap ((l0.length : Int) + 1))) (hc2 : ((IntKind.i64.wrap ((l0.length : Int) + 1)).toNat) ≤ 17592186044416) (b2 : Nat) (Z1 : Option Addr) (cz1 : Nat) : ((List Int) ⊕ SFault) → Exit → Act → World → Prop := Exits 0 (fun (s : (List Int)) a w => St w0 w [Own.blk b2 (.cells #[(.slice Z1 s.length cz1)] 24 (0, 0)), Own.blk b1 (.cells #[.int .i64 0, .int .i64 0] 40 (0, 0)), Own.of (.slice Z1 s.length cz1) 3 s] ∧ Frm 120 a [(0, .slice A0 l0.length c0), (2, .pointer (some ⟨b1, 0, none⟩)), (3, .pointer (some ⟨b2, 0, none⟩))]) (Rets Try.prog Try.f86 (mach_heights.Post w0))
theorem mach_heights_r0 (K : Nat) (w0 : World) (l0 : List SIns) (A0 : Option Addr) (c0 : Nat) (hR0 : RdL w0 A0 l0) (hL0 : l0.length ≤ c0) (b1 : Nat) (hc1 : 0 ≤ (IntKind.i64.wrap ((l0.length : Int) + 1))) (hc2 : ((IntKind.i64.wrap ((l0.length : Int) + 1)).toNat) ≤ 17592186044416) (b2 : Nat) (Z1 : Option Addr) (cz1 : Nat) (s : Int × (List Int)) (o : (Int × (List Int)) ⊕ ((List Int) ⊕ SFault)) (h : mach_heights.r0 l0 s = some o) (a : Act) (w : World) (hA : mach_heights.A0 K w0 l0 A0 c0 hR0 hL0 b1 hc1 hc2 b2 Z1 cz1 s a w) (Q : Exit → Act → World → Prop) (hQ : ∀ x a w, Outs (mach_heights.A0 K w0 l0 A0 c0 hR0 hL0 b1 hc1 hc2 b2 Z1 cz1) (mach_heights.B0 K w0 l0 A0 c0 hR0 hL0 b1 hc1 hc2 b2 Z1 cz1) o x a w → Q x a w) : (subF Try.f86 [1, 1, 0, 1, 0, 0]).wp Try.prog Q a w := by
  obtain ⟨z1, m1⟩ := s
  obtain ⟨hS, hF⟩ := hA
  replace hS : St w0 w [Own.blk b2 (.cells #[(.slice Z1 m1.length cz1)] 24 (0, 0)), Own.blk b1 (.cells #[.int .i64 0, .int .i64 0] 40 (0, 0)), Own.of (.slice Z1 m1.length cz1) 3 m1] := hS
  simp only [mach_heights.r0] at h
  refine (?_ : WE Try.prog 120 (subF Try.f86 [1, 1, 0, 1, 0, 0]) Q [(0, .slice A0 l0.length c0), (2, .pointer (some ⟨b1, 0, none⟩)), (3, .pointer (some ⟨b2, 0, none⟩)), (17, .int .i64 ((List.replicate ((IntKind.i64.wrap ((l0.length : Int) + 1)).toNat) (0 : Int)).length : Int)), (18, .int .i64 z1)] w) a hF
  clear hF a
  refine we_seq fun K5 hK5 => ?_
  refine we_region [(0, 0)] rfl ?_
  refine ge_batch [0] (ans := []) (vs := [(19, .bool (decide (z1 < ((List.replicate ((IntKind.i64.wrap ((l0.length : Int) + 1)).toNat) (0 : Int)).length : Int))))]) (l := []) (by kernel_rfl) trivial ?_
  refine ge_nil fun a hF => hK5 _ _ ?_ a hF
  refine we_seq fun K6 hK6 => ?_
  by_cases hc3 : z1 < ((List.replicate ((IntKind.i64.wrap ((l0.length : Int) + 1)).toNat) (0 : Int)).length : Int)
  · rw [if_pos hc3] at h
    refine we_known (t := 19) (b := decide (z1 < ((List.replicate ((IntKind.i64.wrap ((l0.length : Int) + 1)).toNat) (0 : Int)).length : Int))) (v := true) (by kernel_rfl) (decide_eq_true hc3) ?_
    refine we_true (by kernel_rfl) ?_
    refine we_skip fun a hF => hK6 _ _ ?_ a hF
    refine we_seq fun K7 hK7 => ?_
    refine we_block ?_
    refine we_seq fun K8 hK8 => ?_
    refine we_region [(0, 0), (1, 0)] rfl ?_
    refine ge_batch [0, 1] (ans := []) (vs := [(4, .int .i64 z1), (20, .int .i64 z1)]) (l := []) (by kernel_rfl) trivial ?_
    refine ge_nil fun a hF => hK8 _ _ ?_ a hF
    refine we_region [(0, 0), (1, 0), (2, 0), (3, 2)] rfl ?_
    refine ge_batch [0, 1] (ans := [.val ((.slice Z1 m1.length cz1))]) (vs := [(22, .int .i64 z1), (21, (.slice Z1 m1.length cz1))]) (l := [.loaded ⟨b2, 0, none⟩ ((.slice Z1 m1.length cz1))]) (by kernel_rfl) ⟨hS.cell 0 rfl rfl, trivial⟩ ?_
    by_cases hc4 : 0 ≤ z1
    · rw [if_pos hc4] at h
      rcases hx3 : m1[(z1).toNat]? with _ | e1
      · rw [hx3] at h; cases h
      rw [hx3] at h
      simp only [] at h
      refine ge_index (d := 23) (ty := 0) (t := 24) (el := 3) (sz := 1) (m := m1.length) (c := cz1) (x := (.tmp 21)) (y := (.tmp 22)) (A := Z1) (k' := .i64) (j := z1) (jn := ((z1).toNat)) (b0 := blkOf Z1) (o0 := offOf Z1) (by kernel_rfl) (by kernel_rfl) (by kernel_rfl) (by kernel_rfl) (by kernel_rfl) ((hS.rdAt 2 rfl).eqSome (pos_of_get hx3)) (Int.toNat_of_nonneg hc4).symm (lt_of_get hx3) ?_
      have hS9 := hS.bring 2 rfl
      refine ge_seti (α := Int) (A := Z1) (nn := m1.length) (c := cz1) (t := 3) (l := m1) (x := e1) (x' := (-1)) (jn := ((z1).toNat)) (j := 0) (vs := [.int .i64 (-1)]) (l' := [.stored ⟨blkOf Z1, offOf Z1 + ((z1).toNat) * 1, none⟩ (.int .i64 (-1))]) hS9 (by kernel_rfl) (by kernel_rfl) hx3 rfl rfl rfl fun w5 hS10 => ?_
      have hS11 : St w0 w5 [Own.of (.slice Z1 m1.length cz1) 3 (m1.set ((z1).toNat) (-1)), Own.blk b2 (.cells #[(.slice Z1 m1.length cz1)] 24 (0, 0)), Own.blk b1 (.cells #[.int .i64 0, .int .i64 0] 40 (0, 0))] := hS10
      have hE1 : m1.length = (m1.set ((z1).toNat) (-1)).length := hS11.lenAt 0 rfl
      have hS12 : St w0 w5 [Own.of (.slice Z1 (m1.set ((z1).toNat) (-1)).length cz1) 3 (m1.set ((z1).toNat) (-1)), Own.blk b2 (.cells #[(.slice Z1 (m1.set ((z1).toNat) (-1)).length cz1)] 24 (0, 0)), Own.blk b1 (.cells #[.int .i64 0, .int .i64 0] 40 (0, 0))] := by rw [← hE1]; exact hS11
      refine ge_same (t := 21) (v := (.slice Z1 m1.length cz1)) (v' := (.slice Z1 (m1.set ((z1).toNat) (-1)).length cz1)) (by kernel_rfl) (by rw [hE1]) ?_
      refine ge_nil fun a hF => hK7 _ _ ?_ a hF
      refine we_region [(0, 0), (1, 0)] rfl ?_
      refine ge_batch [0, 1] (ans := []) (vs := [(18, .int .i64 (IntKind.i64.wrap (z1 + 1))), (24, .int .i64 (IntKind.i64.wrap (z1 + 1)))]) (l := []) (by kernel_rfl) trivial ?_
      have hS13 := hS12.bring 2 rfl
      have hS14 := hS13.bring 2 rfl
      obtain rfl := Option.some.inj h
      exact ge_nil fun a hF => hQ _ _ _ (Outs.again ⟨hS14, hF.weaken ⟨by kernel_rfl, by kernel_rfl, by kernel_rfl, by kernel_rfl, by kernel_rfl, trivial⟩⟩)
    · rw [if_neg hc4] at h
      cases h
  · rw [if_neg hc3] at h
    refine we_known (t := 19) (b := decide (z1 < ((List.replicate ((IntKind.i64.wrap ((l0.length : Int) + 1)).toNat) (0 : Int)).length : Int))) (v := false) (by kernel_rfl) (decide_eq_false hc3) ?_
    refine we_false (by kernel_rfl) ?_
    have hS15 := hS.bring 2 rfl
    have hS16 := hS15.bring 2 rfl
    have hS17 := hS16.bring 2 rfl
    obtain rfl := Option.some.inj h
    exact we_exit fun a hF => hQ _ _ _ (Outs.out nofun (Exits.here ⟨hS17, hF.weaken ⟨by kernel_rfl, by kernel_rfl, by kernel_rfl, trivial⟩⟩))
abbrev mach_heights.A2 (K : Nat) (w0 : World) (l0 : List SIns) (A0 : Option Addr) (c0 : Nat) (hR0 : RdL w0 A0 l0) (hL0 : l0.length ≤ c0) (b1 : Nat) (hc1 : 0 ≤ (IntKind.i64.wrap ((l0.length : Int) + 1))) (hc2 : ((IntKind.i64.wrap ((l0.length : Int) + 1)).toNat) ≤ 17592186044416) (b2 : Nat) (Z1 : Option Addr) (cz1 : Nat) (m3 : List Int) (e2 : Int) (hx4 : m3[0]? = some e2) (i1 : Nat) (m4 : List Int) (hc5 : (i1 : Int) < (l0.length : Int)) (e3 : SIns) (hx5 : l0[i1]? = some e3) (b3 : Nat) (Z2 : Option Addr) (cz2 : Nat) (e4 : Int) (hx7 : m4[i1]? = some e4) (hc6 : ¬ (e4 < 0)) (hc7 : e4 ≥ ((mach_pops.f e3.Op).1)) : (Bool × (List Int)) → Act → World → Prop := fun (s : Bool × (List Int)) a w => ∃ (v4 : Value), St w0 w [Own.blk b3 (.cells #[.int .i64 e3.Op, .int .i64 e3.A, .int .i64 e3.B] 29 (0, 0)), Own.blk b2 (.cells #[v4] 24 (0, 0)), Own.blk b1 (.cells #[.int .i64 0, .int .i64 0] 40 (0, 0)), Own.of v4 3 s.2] ∧ Frm 120 a [(0, .slice A0 l0.length c0), (2, .pointer (some ⟨b1, 0, none⟩)), (3, .pointer (some ⟨b2, 0, none⟩)), (5, .func (.func 106) #[] #[.pointer (some ⟨b2, 0, none⟩)]), (6, .int .i64 (i1 : Int)), (7, .pointer (some ⟨b3, 0, none⟩)), (8, .int .i64 (IntKind.i64.wrap (e4 + (IntKind.i64.wrap (((mach_pops.f e3.Op).2) - ((mach_pops.f e3.Op).1)))))), (11, .bool s.1), (28, .slice A0 l0.length c0), (29, .int .i64 (l0.length : Int)), (30, .int .i64 (i1 : Int))]
abbrev mach_heights.B2 (K : Nat) (w0 : World) (l0 : List SIns) (A0 : Option Addr) (c0 : Nat) (hR0 : RdL w0 A0 l0) (hL0 : l0.length ≤ c0) (b1 : Nat) (hc1 : 0 ≤ (IntKind.i64.wrap ((l0.length : Int) + 1))) (hc2 : ((IntKind.i64.wrap ((l0.length : Int) + 1)).toNat) ≤ 17592186044416) (b2 : Nat) (Z1 : Option Addr) (cz1 : Nat) (m3 : List Int) (e2 : Int) (hx4 : m3[0]? = some e2) (i1 : Nat) (m4 : List Int) (hc5 : (i1 : Int) < (l0.length : Int)) (e3 : SIns) (hx5 : l0[i1]? = some e3) (b3 : Nat) (Z2 : Option Addr) (cz2 : Nat) (e4 : Int) (hx7 : m4[i1]? = some e4) (hc6 : ¬ (e4 < 0)) (hc7 : e4 ≥ ((mach_pops.f e3.Op).1)) : SFault → Exit → Act → World → Prop := Rets Try.prog Try.f86 (mach_heights.Post w0)
theorem mach_heights_p2 (K : Nat) (w0 : World) (l0 : List SIns) (A0 : Option Addr) (c0 : Nat) (hR0 : RdL w0 A0 l0) (hL0 : l0.length ≤ c0) (b1 : Nat) (hc1 : 0 ≤ (IntKind.i64.wrap ((l0.length : Int) + 1))) (hc2 : ((IntKind.i64.wrap ((l0.length : Int) + 1)).toNat) ≤ 17592186044416) (b2 : Nat) (Z1 : Option Addr) (cz1 : Nat) (m3 : List Int) (e2 : Int) (hx4 : m3[0]? = some e2) (i1 : Nat) (m4 : List Int) (hc5 : (i1 : Int) < (l0.length : Int)) (e3 : SIns) (hx5 : l0[i1]? = some e3) (b3 : Nat) (Z2 : Option Addr) (cz2 : Nat) (e4 : Int) (hx7 : m4[i1]? = some e4) (hc6 : ¬ (e4 < 0)) (hc7 : e4 ≥ ((mach_pops.f e3.Op).1)) (o : (Bool × (List Int)) ⊕ SFault) (h : mach_heights.p2 m4 e3 e4 = some o) (w : World) (hS : St w0 w [Own.blk b3 (.cells #[.int .i64 e3.Op, .int .i64 e3.A, .int .i64 e3.B] 29 (0, 0)), Own.blk b2 (.cells #[(.slice Z2 m4.length cz2)] 24 (0, 0)), Own.blk b1 (.cells #[.int .i64 0, .int .i64 0] 40 (0, 0)), Own.of (.slice Z2 m4.length cz2) 3 m4]) (Q : Exit → Act → World → Prop) (hQ : ∀ x a w, Outs (mach_heights.A2 K w0 l0 A0 c0 hR0 hL0 b1 hc1 hc2 b2 Z1 cz1 m3 e2 hx4 i1 m4 hc5 e3 hx5 b3 Z2 cz2 e4 hx7 hc6 hc7) (mach_heights.B2 K w0 l0 A0 c0 hR0 hL0 b1 hc1 hc2 b2 Z1 cz1 m3 e2 hx4 i1 m4 hc5 e3 hx5 b3 Z2 cz2 e4 hx7 hc6 hc7) o x a w → Q x a w) : WE Try.prog 120 (subF Try.f86 [1, 1, 1, 1, 1, 0, 1, 0, 0, 1, 1, 0, 0, 1, 1, 1, 1, 1, 1, 0]) Q ((0, .slice A0 l0.length c0) :: (2, .pointer (some ⟨b1, 0, none⟩)) :: (3, .pointer (some ⟨b2, 0, none⟩)) :: (5, .func (.func 106) #[] #[.pointer (some ⟨b2, 0, none⟩)]) :: (6, .int .i64 (i1 : Int)) :: (7, .pointer (some ⟨b3, 0, none⟩)) :: (8, .int .i64 (IntKind.i64.wrap (e4 + (IntKind.i64.wrap (((mach_pops.f e3.Op).2) - ((mach_pops.f e3.Op).1)))))) :: (9, .int .i64 ((mach_pops.f e3.Op).1)) :: (10, .int .i64 ((mach_pops.f e3.Op).2)) :: (11, .bool (decide ((IntKind.i64.wrap ((IntKind.i64.wrap (e4 - ((mach_pops.f e3.Op).1))) + ((mach_pops.f e3.Op).2))) ≤ 20))) :: (28, .slice A0 l0.length c0) :: (29, .int .i64 (l0.length : Int)) :: (30, .int .i64 (i1 : Int)) :: (31, .bool true) :: (32, .int .i64 (i1 : Int)) :: (33, .pointer (some ⟨blkOf A0, offOf A0 + i1 * 3, none⟩)) :: (34, .agg #[.int .i64 e3.Op, .int .i64 e3.A, .int .i64 e3.B]) :: (35, (.slice Z2 m4.length cz2)) :: (36, .int .i64 (i1 : Int)) :: (37, .pointer (some ⟨blkOf Z2, offOf Z2 + i1 * 1, none⟩)) :: (38, .int .i64 e4) :: (39, .int .i64 e4) :: (40, .bool false) :: (43, .tuple #[.int .i64 ((mach_pops.f e3.Op).1), .int .i64 ((mach_pops.f e3.Op).2)]) :: (44, .pointer (some ⟨b3, 0, none⟩)) :: (45, .int .i64 e3.Op) :: (46, .tuple #[.int .i64 ((mach_pops.f e3.Op).1), .int .i64 ((mach_pops.f e3.Op).2)]) :: (47, .int .i64 ((mach_pops.f e3.Op).1)) :: (48, .int .i64 ((mach_pops.f e3.Op).2)) :: (49, .int .i64 e4) :: (50, .int .i64 ((mach_pops.f e3.Op).1)) :: (51, .bool (decide (e4 ≥ ((mach_pops.f e3.Op).1)))) :: (52, .bool true) :: (53, .int .i64 e4) :: (54, .int .i64 ((mach_pops.f e3.Op).1)) :: (55, .int .i64 (IntKind.i64.wrap (e4 - ((mach_pops.f e3.Op).1)))) :: (56, .int .i64 ((mach_pops.f e3.Op).2)) :: (57, .int .i64 (IntKind.i64.wrap ((IntKind.i64.wrap (e4 - ((mach_pops.f e3.Op).1))) + ((mach_pops.f e3.Op).2)))) :: (58, .bool (decide ((IntKind.i64.wrap ((IntKind.i64.wrap (e4 - ((mach_pops.f e3.Op).1))) + ((mach_pops.f e3.Op).2))) ≤ 20))) :: (59, .bool (decide ((IntKind.i64.wrap ((IntKind.i64.wrap (e4 - ((mach_pops.f e3.Op).1))) + ((mach_pops.f e3.Op).2))) ≤ 20))) :: (60, .int .i64 e4) :: (61, .int .i64 ((mach_pops.f e3.Op).2)) :: (62, .int .i64 ((mach_pops.f e3.Op).1)) :: (63, .int .i64 (IntKind.i64.wrap (((mach_pops.f e3.Op).2) - ((mach_pops.f e3.Op).1)))) :: (64, .int .i64 (IntKind.i64.wrap (e4 + (IntKind.i64.wrap (((mach_pops.f e3.Op).2) - ((mach_pops.f e3.Op).1)))))) :: []) w := by
  simp only [mach_heights.p2] at h
  refine we_seq fun K25 hK25 => ?_
  refine we_region [(0, 0), (1, 0), (2, 0), (3, 0), (4, 0), (5, 0), (6, 0), (7, 0)] rfl ?_
  refine ge_batch [0, 1, 2, 3] (ans := [.val (.int .i64 e3.Op)]) (vs := [(68, .bool (e3.Op == 11)), (67, .bool (e3.Op == 11)), (66, .int .i64 e3.Op), (65, .pointer (some ⟨b3, 0, none⟩))]) (l := [.loaded ⟨b3, 0, none⟩ (.int .i64 e3.Op)]) (by kernel_rfl) ⟨hS.cell 0 rfl rfl, trivial⟩ ?_
  by_cases hc8 : e3.Op = 11
  · rw [if_pos hc8] at h
    refine ge_known (t := 68) (b := (e3.Op == 11)) (c := true) (by kernel_rfl) (beq_iff_eq.2 hc8) ?_
    refine ge_batch [4, 5, 6, 7] (ans := []) (vs := [(72, .bool true), (71, undef), (70, undef), (69, undef)]) (l := []) (by kernel_rfl) trivial ?_
    refine ge_nil fun a hF => hK25 _ _ ?_ a hF
    refine we_true (by kernel_rfl) ?_
    refine we_region [(0, 0), (1, 0), (2, 0), (3, 0), (4, 0), (5, 0), (6, 2), (7, 0), (8, 0)] rfl ?_
    refine ge_batch [0, 1] (ans := []) (vs := [(74, .bool (decide ((IntKind.i64.wrap ((IntKind.i64.wrap (e4 - ((mach_pops.f e3.Op).1))) + ((mach_pops.f e3.Op).2))) ≤ 20))), (73, .bool (decide ((IntKind.i64.wrap ((IntKind.i64.wrap (e4 - ((mach_pops.f e3.Op).1))) + ((mach_pops.f e3.Op).2))) ≤ 20)))]) (l := []) (by kernel_rfl) trivial ?_
    by_cases hc9 : (IntKind.i64.wrap ((IntKind.i64.wrap (e4 - ((mach_pops.f e3.Op).1))) + ((mach_pops.f e3.Op).2))) ≤ 20
    · rw [if_pos hc9] at h
      refine ge_known (t := 74) (b := decide ((IntKind.i64.wrap ((IntKind.i64.wrap (e4 - ((mach_pops.f e3.Op).1))) + ((mach_pops.f e3.Op).2))) ≤ 20)) (c := true) (by kernel_rfl) (decide_eq_true hc9) ?_
      refine ge_batch [2, 3, 4, 5] (ans := [.val (.int .i64 e3.A)]) (vs := [(78, .int .i64 (IntKind.i64.wrap (e4 + (IntKind.i64.wrap (((mach_pops.f e3.Op).2) - ((mach_pops.f e3.Op).1)))))), (77, .int .i64 e3.A), (76, .pointer (some ⟨b3, 1, none⟩)), (75, .func (.func 106) #[] #[.pointer (some ⟨b2, 0, none⟩)])]) (l := [.loaded ⟨b3, 1, none⟩ (.int .i64 e3.A)]) (by kernel_rfl) ⟨hS.cell 0 rfl rfl, trivial⟩ ?_
      rcases hq3 : mach_heights_1.f e3.A (IntKind.i64.wrap (e4 + (IntKind.i64.wrap (((mach_pops.f e3.Op).2) - ((mach_pops.f e3.Op).1))))) m4 with _ | r1
      · rw [hq3] at h; cases h
      rw [hq3] at h
      simp only [] at h
      have hS34 := hS.bring 3 rfl
      have hS35 := hS34.bring 2 rfl
      have hS37 : St w0 w [Own.blk b2 (.cells #[(.slice Z2 m4.length cz2)] 24 (0, 0)), Own.of (.slice Z2 m4.length cz2) 3 m4, Own.all [Own.blk b3 (.cells #[.int .i64 e3.Op, .int .i64 e3.A, .int .i64 e3.B] 29 (0, 0)), Own.blk b1 (.cells #[.int .i64 0, .int .i64 0] 40 (0, 0))]] := hS35.packN 2
      refine ge_call2 (m := 0) (d := some 79) (f := 106) (args := #[.int .i64 e3.A, .int .i64 (IntKind.i64.wrap (e4 + (IntKind.i64.wrap (((mach_pops.f e3.Op).2) - ((mach_pops.f e3.Op).1))))), .pointer (some ⟨b2, 0, none⟩)]) (by kernel_rfl) (mach_heights_1_ok e3.A (IntKind.i64.wrap (e4 + (IntKind.i64.wrap (((mach_pops.f e3.Op).2) - ((mach_pops.f e3.Op).1))))) b2 m4 Z2 cz2 _ _ _ hS37 _ hq3) ?_
      rintro _ w12 ⟨v5, rfl, hS36⟩
      refine ⟨_, rfl, ?_⟩
      have hS38 : St w0 w12 [Own.blk b2 (.cells #[v5] 24 (0, 0)), Own.of v5 3 r1.2, Own.blk b3 (.cells #[.int .i64 e3.Op, .int .i64 e3.A, .int .i64 e3.B] 29 (0, 0)), Own.blk b1 (.cells #[.int .i64 0, .int .i64 0] 40 (0, 0))] := hS36.unpack [Own.blk b2 (.cells #[v5] 24 (0, 0)), Own.of v5 3 r1.2]
      refine ge_batch [7, 8] (ans := []) (vs := [(11, .bool r1.1), (80, .bool r1.1)]) (l := []) (by kernel_rfl) trivial ?_
      have hS39 := hS38.bring 1 rfl
      have hS40 := hS39.bring 3 rfl
      have hS41 := hS40.bring 2 rfl
      have hS42 := hS41.bring 3 rfl
      obtain rfl := Option.some.inj h
      exact ge_nil fun a hF => hQ _ _ _ (Outs.again ⟨v5, hS42, hF.weaken ⟨by kernel_rfl, by kernel_rfl, by kernel_rfl, by kernel_rfl, by kernel_rfl, by kernel_rfl, by kernel_rfl, by kernel_rfl, by kernel_rfl, by kernel_rfl, by kernel_rfl, trivial⟩⟩)
    · rw [if_neg hc9] at h
      refine ge_known (t := 74) (b := decide ((IntKind.i64.wrap ((IntKind.i64.wrap (e4 - ((mach_pops.f e3.Op).1))) + ((mach_pops.f e3.Op).2))) ≤ 20)) (c := false) (by kernel_rfl) (decide_eq_false hc9) ?_
      refine ge_batch [2, 3, 4, 5] (ans := []) (vs := [(78, undef), (77, undef), (76, undef), (75, undef)]) (l := []) (by kernel_rfl) trivial ?_
      refine ge_off rfl rfl rfl (by kernel_rfl) ?_
      refine ge_batch [7, 8] (ans := []) (vs := [(11, .bool false), (80, .bool false)]) (l := []) (by kernel_rfl) trivial ?_
      have hS43 := hS.bring 3 rfl
      have hS44 := hS43.bring 3 rfl
      have hS45 := hS44.bring 3 rfl
      have hS46 := hS45.bring 3 rfl
      obtain rfl := Option.some.inj h
      exact ge_nil fun a hF => hQ _ _ _ (Outs.again ⟨(.slice Z2 m4.length cz2), hS46, hF.weaken ⟨by kernel_rfl, by kernel_rfl, by kernel_rfl, by kernel_rfl, by kernel_rfl, by kernel_rfl, by kernel_rfl, by kernel_rfl, by kernel_rfl, by kernel_rfl, by kernel_rfl, trivial⟩⟩)
  · rw [if_neg hc8] at h
    refine ge_known (t := 68) (b := (e3.Op == 11)) (c := false) (by kernel_rfl) (beq_eq_false_iff_ne.2 hc8) ?_
    refine ge_batch [4, 5, 6, 7] (ans := [.val (.int .i64 e3.Op)]) (vs := [(72, .bool (e3.Op == 12)), (71, .bool (e3.Op == 12)), (70, .int .i64 e3.Op), (69, .pointer (some ⟨b3, 0, none⟩))]) (l := [.loaded ⟨b3, 0, none⟩ (.int .i64 e3.Op)]) (by kernel_rfl) ⟨hS.cell 0 rfl rfl, trivial⟩ ?_
    refine ge_nil fun a hF => hK25 _ _ ?_ a hF
    by_cases hc10 : e3.Op = 12
    · rw [if_pos hc10] at h
      refine we_known (t := 72) (b := (e3.Op == 12)) (v := true) (by kernel_rfl) (beq_iff_eq.2 hc10) ?_
      refine we_true (by kernel_rfl) ?_
      refine we_region [(0, 0), (1, 0), (2, 0), (3, 0), (4, 0), (5, 0), (6, 2), (7, 0), (8, 0)] rfl ?_
      refine ge_batch [0, 1] (ans := []) (vs := [(74, .bool (decide ((IntKind.i64.wrap ((IntKind.i64.wrap (e4 - ((mach_pops.f e3.Op).1))) + ((mach_pops.f e3.Op).2))) ≤ 20))), (73, .bool (decide ((IntKind.i64.wrap ((IntKind.i64.wrap (e4 - ((mach_pops.f e3.Op).1))) + ((mach_pops.f e3.Op).2))) ≤ 20)))]) (l := []) (by kernel_rfl) trivial ?_
      by_cases hc11 : (IntKind.i64.wrap ((IntKind.i64.wrap (e4 - ((mach_pops.f e3.Op).1))) + ((mach_pops.f e3.Op).2))) ≤ 20
      · rw [if_pos hc11] at h
        refine ge_known (t := 74) (b := decide ((IntKind.i64.wrap ((IntKind.i64.wrap (e4 - ((mach_pops.f e3.Op).1))) + ((mach_pops.f e3.Op).2))) ≤ 20)) (c := true) (by kernel_rfl) (decide_eq_true hc11) ?_
        refine ge_batch [2, 3, 4, 5] (ans := [.val (.int .i64 e3.A)]) (vs := [(78, .int .i64 (IntKind.i64.wrap (e4 + (IntKind.i64.wrap (((mach_pops.f e3.Op).2) - ((mach_pops.f e3.Op).1)))))), (77, .int .i64 e3.A), (76, .pointer (some ⟨b3, 1, none⟩)), (75, .func (.func 106) #[] #[.pointer (some ⟨b2, 0, none⟩)])]) (l := [.loaded ⟨b3, 1, none⟩ (.int .i64 e3.A)]) (by kernel_rfl) ⟨hS.cell 0 rfl rfl, trivial⟩ ?_
        rcases hq4 : mach_heights_1.f e3.A (IntKind.i64.wrap (e4 + (IntKind.i64.wrap (((mach_pops.f e3.Op).2) - ((mach_pops.f e3.Op).1))))) m4 with _ | r2
        · rw [hq4] at h; cases h
        rw [hq4] at h
        simp only [] at h
        have hS47 := hS.bring 3 rfl
        have hS48 := hS47.bring 2 rfl
        have hS50 : St w0 w [Own.blk b2 (.cells #[(.slice Z2 m4.length cz2)] 24 (0, 0)), Own.of (.slice Z2 m4.length cz2) 3 m4, Own.all [Own.blk b3 (.cells #[.int .i64 e3.Op, .int .i64 e3.A, .int .i64 e3.B] 29 (0, 0)), Own.blk b1 (.cells #[.int .i64 0, .int .i64 0] 40 (0, 0))]] := hS48.packN 2
        refine ge_call2 (m := 0) (d := some 79) (f := 106) (args := #[.int .i64 e3.A, .int .i64 (IntKind.i64.wrap (e4 + (IntKind.i64.wrap (((mach_pops.f e3.Op).2) - ((mach_pops.f e3.Op).1))))), .pointer (some ⟨b2, 0, none⟩)]) (by kernel_rfl) (mach_heights_1_ok e3.A (IntKind.i64.wrap (e4 + (IntKind.i64.wrap (((mach_pops.f e3.Op).2) - ((mach_pops.f e3.Op).1))))) b2 m4 Z2 cz2 _ _ _ hS50 _ hq4) ?_
        rintro _ w13 ⟨v6, rfl, hS49⟩
        refine ⟨_, rfl, ?_⟩
        have hS51 : St w0 w13 [Own.blk b2 (.cells #[v6] 24 (0, 0)), Own.of v6 3 r2.2, Own.blk b3 (.cells #[.int .i64 e3.Op, .int .i64 e3.A, .int .i64 e3.B] 29 (0, 0)), Own.blk b1 (.cells #[.int .i64 0, .int .i64 0] 40 (0, 0))] := hS49.unpack [Own.blk b2 (.cells #[v6] 24 (0, 0)), Own.of v6 3 r2.2]
        refine ge_batch [7, 8] (ans := []) (vs := [(11, .bool r2.1), (80, .bool r2.1)]) (l := []) (by kernel_rfl) trivial ?_
        have hS52 := hS51.bring 1 rfl
        have hS53 := hS52.bring 3 rfl
        have hS54 := hS53.bring 2 rfl
        have hS55 := hS54.bring 3 rfl
        obtain rfl := Option.some.inj h
        exact ge_nil fun a hF => hQ _ _ _ (Outs.again ⟨v6, hS55, hF.weaken ⟨by kernel_rfl, by kernel_rfl, by kernel_rfl, by kernel_rfl, by kernel_rfl, by kernel_rfl, by kernel_rfl, by kernel_rfl, by kernel_rfl, by kernel_rfl, by kernel_rfl, trivial⟩⟩)
      · rw [if_neg hc11] at h
        refine ge_known (t := 74) (b := decide ((IntKind.i64.wrap ((IntKind.i64.wrap (e4 - ((mach_pops.f e3.Op).1))) + ((mach_pops.f e3.Op).2))) ≤ 20)) (c := false) (by kernel_rfl) (decide_eq_false hc11) ?_
        refine ge_batch [2, 3, 4, 5] (ans := []) (vs := [(78, undef), (77, undef), (76, undef), (75, undef)]) (l := []) (by kernel_rfl) trivial ?_
        refine ge_off rfl rfl rfl (by kernel_rfl) ?_
        refine ge_batch [7, 8] (ans := []) (vs := [(11, .bool false), (80, .bool false)]) (l := []) (by kernel_rfl) trivial ?_
        have hS56 := hS.bring 3 rfl
        have hS57 := hS56.bring 3 rfl
        have hS58 := hS57.bring 3 rfl
        have hS59 := hS58.bring 3 rfl
        obtain rfl := Option.some.inj h
        exact ge_nil fun a hF => hQ _ _ _ (Outs.again ⟨(.slice Z2 m4.length cz2), hS59, hF.weaken ⟨by kernel_rfl, by kernel_rfl, by kernel_rfl, by kernel_rfl, by kernel_rfl, by kernel_rfl, by kernel_rfl, by kernel_rfl, by kernel_rfl, by kernel_rfl, by kernel_rfl, trivial⟩⟩)
    · rw [if_neg hc10] at h
      refine we_known (t := 72) (b := (e3.Op == 12)) (v := false) (by kernel_rfl) (beq_eq_false_iff_ne.2 hc10) ?_
      refine we_false (by kernel_rfl) ?_
      have hS60 := hS.bring 3 rfl
      have hS61 := hS60.bring 3 rfl
      have hS62 := hS61.bring 3 rfl
      have hS63 := hS62.bring 3 rfl
      obtain rfl := Option.some.inj h
      exact we_skip fun a hF => hQ _ _ _ (Outs.again ⟨(.slice Z2 m4.length cz2), hS63, hF.weaken ⟨by kernel_rfl, by kernel_rfl, by kernel_rfl, by kernel_rfl, by kernel_rfl, by kernel_rfl, by kernel_rfl, by kernel_rfl, by kernel_rfl, by kernel_rfl, by kernel_rfl, trivial⟩⟩)
abbrev mach_heights.A3 (K : Nat) (w0 : World) (l0 : List SIns) (A0 : Option Addr) (c0 : Nat) (hR0 : RdL w0 A0 l0) (hL0 : l0.length ≤ c0) (b1 : Nat) (hc1 : 0 ≤ (IntKind.i64.wrap ((l0.length : Int) + 1))) (hc2 : ((IntKind.i64.wrap ((l0.length : Int) + 1)).toNat) ≤ 17592186044416) (b2 : Nat) (Z1 : Option Addr) (cz1 : Nat) (m3 : List Int) (e2 : Int) (hx4 : m3[0]? = some e2) (i1 : Nat) (m4 : List Int) (hc5 : (i1 : Int) < (l0.length : Int)) (e3 : SIns) (hx5 : l0[i1]? = some e3) (b3 : Nat) (Z2 : Option Addr) (cz2 : Nat) (e4 : Int) (hx7 : m4[i1]? = some e4) (hc6 : ¬ (e4 < 0)) (hc7 : ¬ (e4 ≥ ((mach_pops.f e3.Op).1))) : (Bool × (List Int)) → Act → World → Prop := fun (s : Bool × (List Int)) a w => ∃ (v10 : Value), St w0 w [Own.blk b3 (.cells #[.int .i64 e3.Op, .int .i64 e3.A, .int .i64 e3.B] 29 (0, 0)), Own.blk b2 (.cells #[v10] 24 (0, 0)), Own.blk b1 (.cells #[.int .i64 0, .int .i64 0] 40 (0, 0)), Own.of v10 3 s.2] ∧ Frm 120 a [(0, .slice A0 l0.length c0), (2, .pointer (some ⟨b1, 0, none⟩)), (3, .pointer (some ⟨b2, 0, none⟩)), (5, .func (.func 106) #[] #[.pointer (some ⟨b2, 0, none⟩)]), (6, .int .i64 (i1 : Int)), (7, .pointer (some ⟨b3, 0, none⟩)), (8, .int .i64 (IntKind.i64.wrap (e4 + (IntKind.i64.wrap (((mach_pops.f e3.Op).2) - ((mach_pops.f e3.Op).1)))))), (11, .bool s.1), (28, .slice A0 l0.length c0), (29, .int .i64 (l0.length : Int)), (30, .int .i64 (i1 : Int))]
abbrev mach_heights.B3 (K : Nat) (w0 : World) (l0 : List SIns) (A0 : Option Addr) (c0 : Nat) (hR0 : RdL w0 A0 l0) (hL0 : l0.length ≤ c0) (b1 : Nat) (hc1 : 0 ≤ (IntKind.i64.wrap ((l0.length : Int) + 1))) (hc2 : ((IntKind.i64.wrap ((l0.length : Int) + 1)).toNat) ≤ 17592186044416) (b2 : Nat) (Z1 : Option Addr) (cz1 : Nat) (m3 : List Int) (e2 : Int) (hx4 : m3[0]? = some e2) (i1 : Nat) (m4 : List Int) (hc5 : (i1 : Int) < (l0.length : Int)) (e3 : SIns) (hx5 : l0[i1]? = some e3) (b3 : Nat) (Z2 : Option Addr) (cz2 : Nat) (e4 : Int) (hx7 : m4[i1]? = some e4) (hc6 : ¬ (e4 < 0)) (hc7 : ¬ (e4 ≥ ((mach_pops.f e3.Op).1))) : SFault → Exit → Act → World → Prop := Rets Try.prog Try.f86 (mach_heights.Post w0)
theorem mach_heights_p3 (K : Nat) (w0 : World) (l0 : List SIns) (A0 : Option Addr) (c0 : Nat) (hR0 : RdL w0 A0 l0) (hL0 : l0.length ≤ c0) (b1 : Nat) (hc1 : 0 ≤ (IntKind.i64.wrap ((l0.length : Int) + 1))) (hc2 : ((IntKind.i64.wrap ((l0.length : Int) + 1)).toNat) ≤ 17592186044416) (b2 : Nat) (Z1 : Option Addr) (cz1 : Nat) (m3 : List Int) (e2 : Int) (hx4 : m3[0]? = some e2) (i1 : Nat) (m4 : List Int) (hc5 : (i1 : Int) < (l0.length : Int)) (e3 : SIns) (hx5 : l0[i1]? = some e3) (b3 : Nat) (Z2 : Option Addr) (cz2 : Nat) (e4 : Int) (hx7 : m4[i1]? = some e4) (hc6 : ¬ (e4 < 0)) (hc7 : ¬ (e4 ≥ ((mach_pops.f e3.Op).1))) (o : (Bool × (List Int)) ⊕ SFault) (h : mach_heights.p3 m4 e3 = some o) (w : World) (hS : St w0 w [Own.blk b3 (.cells #[.int .i64 e3.Op, .int .i64 e3.A, .int .i64 e3.B] 29 (0, 0)), Own.blk b2 (.cells #[(.slice Z2 m4.length cz2)] 24 (0, 0)), Own.blk b1 (.cells #[.int .i64 0, .int .i64 0] 40 (0, 0)), Own.of (.slice Z2 m4.length cz2) 3 m4]) (Q : Exit → Act → World → Prop) (hQ : ∀ x a w, Outs (mach_heights.A3 K w0 l0 A0 c0 hR0 hL0 b1 hc1 hc2 b2 Z1 cz1 m3 e2 hx4 i1 m4 hc5 e3 hx5 b3 Z2 cz2 e4 hx7 hc6 hc7) (mach_heights.B3 K w0 l0 A0 c0 hR0 hL0 b1 hc1 hc2 b2 Z1 cz1 m3 e2 hx4 i1 m4 hc5 e3 hx5 b3 Z2 cz2 e4 hx7 hc6 hc7) o x a w → Q x a w) : WE Try.prog 120 (subF Try.f86 [1, 1, 1, 1, 1, 0, 1, 0, 0, 1, 1, 0, 0, 1, 1, 1, 1, 1, 1, 0]) Q ((0, .slice A0 l0.length c0) :: (2, .pointer (some ⟨b1, 0, none⟩)) :: (3, .pointer (some ⟨b2, 0, none⟩)) :: (5, .func (.func 106) #[] #[.pointer (some ⟨b2, 0, none⟩)]) :: (6, .int .i64 (i1 : Int)) :: (7, .pointer (some ⟨b3, 0, none⟩)) :: (8, .int .i64 (IntKind.i64.wrap (e4 + (IntKind.i64.wrap (((mach_pops.f e3.Op).2) - ((mach_pops.f e3.Op).1)))))) :: (9, .int .i64 ((mach_pops.f e3.Op).1)) :: (10, .int .i64 ((mach_pops.f e3.Op).2)) :: (11, .bool false) :: (28, .slice A0 l0.length c0) :: (29, .int .i64 (l0.length : Int)) :: (30, .int .i64 (i1 : Int)) :: (31, .bool true) :: (32, .int .i64 (i1 : Int)) :: (33, .pointer (some ⟨blkOf A0, offOf A0 + i1 * 3, none⟩)) :: (34, .agg #[.int .i64 e3.Op, .int .i64 e3.A, .int .i64 e3.B]) :: (35, (.slice Z2 m4.length cz2)) :: (36, .int .i64 (i1 : Int)) :: (37, .pointer (some ⟨blkOf Z2, offOf Z2 + i1 * 1, none⟩)) :: (38, .int .i64 e4) :: (39, .int .i64 e4) :: (40, .bool false) :: (43, .tuple #[.int .i64 ((mach_pops.f e3.Op).1), .int .i64 ((mach_pops.f e3.Op).2)]) :: (44, .pointer (some ⟨b3, 0, none⟩)) :: (45, .int .i64 e3.Op) :: (46, .tuple #[.int .i64 ((mach_pops.f e3.Op).1), .int .i64 ((mach_pops.f e3.Op).2)]) :: (47, .int .i64 ((mach_pops.f e3.Op).1)) :: (48, .int .i64 ((mach_pops.f e3.Op).2)) :: (49, .int .i64 e4) :: (50, .int .i64 ((mach_pops.f e3.Op).1)) :: (51, .bool (decide (e4 ≥ ((mach_pops.f e3.Op).1)))) :: (52, .bool false) :: (53, undef) :: (54, undef) :: (55, undef) :: (56, undef) :: (57, undef) :: (58, undef) :: (59, .bool false) :: (60, .int .i64 e4) :: (61, .int .i64 ((mach_pops.f e3.Op).2)) :: (62, .int .i64 ((mach_pops.f e3.Op).1)) :: (63, .int .i64 (IntKind.i64.wrap (((mach_pops.f e3.Op).2) - ((mach_pops.f e3.Op).1)))) :: (64, .int .i64 (IntKind.i64.wrap (e4 + (IntKind.i64.wrap (((mach_pops.f e3.Op).2) - ((mach_pops.f e3.Op).1)))))) :: []) w := by
  simp only [mach_heights.p3] at h
  refine we_seq fun K52 hK52 => ?_
  refine we_region [(0, 0), (1, 0), (2, 0), (3, 0), (4, 0), (5, 0), (6, 0), (7, 0)] rfl ?_
  refine ge_batch [0, 1, 2, 3] (ans := [.val (.int .i64 e3.Op)]) (vs := [(68, .bool (e3.Op == 11)), (67, .bool (e3.Op == 11)), (66, .int .i64 e3.Op), (65, .pointer (some ⟨b3, 0, none⟩))]) (l := [.loaded ⟨b3, 0, none⟩ (.int .i64 e3.Op)]) (by kernel_rfl) ⟨hS.cell 0 rfl rfl, trivial⟩ ?_
  by_cases hc24 : e3.Op = 11
  · rw [if_pos hc24] at h
    refine ge_known (t := 68) (b := (e3.Op == 11)) (c := true) (by kernel_rfl) (beq_iff_eq.2 hc24) ?_
    refine ge_batch [4, 5, 6, 7] (ans := []) (vs := [(72, .bool true), (71, undef), (70, undef), (69, undef)]) (l := []) (by kernel_rfl) trivial ?_
    refine ge_nil fun a hF => hK52 _ _ ?_ a hF
    refine we_true (by kernel_rfl) ?_
    refine we_region [(0, 0), (1, 0), (2, 0), (3, 0), (4, 0), (5, 0), (6, 2), (7, 0), (8, 0)] rfl ?_
    refine ge_batch [0, 1, 2, 3, 4, 5] (ans := []) (vs := [(78, undef), (77, undef), (76, undef), (75, undef), (74, .bool false), (73, .bool false)]) (l := []) (by kernel_rfl) trivial ?_
    refine ge_off rfl rfl rfl (by kernel_rfl) ?_
    refine ge_batch [7, 8] (ans := []) (vs := [(11, .bool false), (80, .bool false)]) (l := []) (by kernel_rfl) trivial ?_
    have hS123 := hS.bring 3 rfl
    have hS124 := hS123.bring 3 rfl
    have hS125 := hS124.bring 3 rfl
    have hS126 := hS125.bring 3 rfl
    obtain rfl := Option.some.inj h
    exact ge_nil fun a hF => hQ _ _ _ (Outs.again ⟨(.slice Z2 m4.length cz2), hS126, hF.weaken ⟨by kernel_rfl, by kernel_rfl, by kernel_rfl, by kernel_rfl, by kernel_rfl, by kernel_rfl, by kernel_rfl, by kernel_rfl, by kernel_rfl, by kernel_rfl, by kernel_rfl, trivial⟩⟩)
  · rw [if_neg hc24] at h
    refine ge_known (t := 68) (b := (e3.Op == 11)) (c := false) (by kernel_rfl) (beq_eq_false_iff_ne.2 hc24) ?_
    refine ge_batch [4, 5, 6, 7] (ans := [.val (.int .i64 e3.Op)]) (vs := [(72, .bool (e3.Op == 12)), (71, .bool (e3.Op == 12)), (70, .int .i64 e3.Op), (69, .pointer (some ⟨b3, 0, none⟩))]) (l := [.loaded ⟨b3, 0, none⟩ (.int .i64 e3.Op)]) (by kernel_rfl) ⟨hS.cell 0 rfl rfl, trivial⟩ ?_
    refine ge_nil fun a hF => hK52 _ _ ?_ a hF
    by_cases hc25 : e3.Op = 12
    · rw [if_pos hc25] at h
      refine we_known (t := 72) (b := (e3.Op == 12)) (v := true) (by kernel_rfl) (beq_iff_eq.2 hc25) ?_
      refine we_true (by kernel_rfl) ?_
      refine we_region [(0, 0), (1, 0), (2, 0), (3, 0), (4, 0), (5, 0), (6, 2), (7, 0), (8, 0)] rfl ?_
      refine ge_batch [0, 1, 2, 3, 4, 5] (ans := []) (vs := [(78, undef), (77, undef), (76, undef), (75, undef), (74, .bool false), (73, .bool false)]) (l := []) (by kernel_rfl) trivial ?_
      refine ge_off rfl rfl rfl (by kernel_rfl) ?_
      refine ge_batch [7, 8] (ans := []) (vs := [(11, .bool false), (80, .bool false)]) (l := []) (by kernel_rfl) trivial ?_
      have hS127 := hS.bring 3 rfl
      have hS128 := hS127.bring 3 rfl
      have hS129 := hS128.bring 3 rfl
      have hS130 := hS129.bring 3 rfl
      obtain rfl := Option.some.inj h
      exact ge_nil fun a hF => hQ _ _ _ (Outs.again ⟨(.slice Z2 m4.length cz2), hS130, hF.weaken ⟨by kernel_rfl, by kernel_rfl, by kernel_rfl, by kernel_rfl, by kernel_rfl, by kernel_rfl, by kernel_rfl, by kernel_rfl, by kernel_rfl, by kernel_rfl, by kernel_rfl, trivial⟩⟩)
    · rw [if_neg hc25] at h
      refine we_known (t := 72) (b := (e3.Op == 12)) (v := false) (by kernel_rfl) (beq_eq_false_iff_ne.2 hc25) ?_
      refine we_false (by kernel_rfl) ?_
      have hS131 := hS.bring 3 rfl
      have hS132 := hS131.bring 3 rfl
      have hS133 := hS132.bring 3 rfl
      have hS134 := hS133.bring 3 rfl
      obtain rfl := Option.some.inj h
      exact we_skip fun a hF => hQ _ _ _ (Outs.again ⟨(.slice Z2 m4.length cz2), hS134, hF.weaken ⟨by kernel_rfl, by kernel_rfl, by kernel_rfl, by kernel_rfl, by kernel_rfl, by kernel_rfl, by kernel_rfl, by kernel_rfl, by kernel_rfl, by kernel_rfl, by kernel_rfl, trivial⟩⟩)
abbrev mach_heights.A1 (K : Nat) (w0 : World) (l0 : List SIns) (A0 : Option Addr) (c0 : Nat) (hR0 : RdL w0 A0 l0) (hL0 : l0.length ≤ c0) (b1 : Nat) (hc1 : 0 ≤ (IntKind.i64.wrap ((l0.length : Int) + 1))) (hc2 : ((IntKind.i64.wrap ((l0.length : Int) + 1)).toNat) ≤ 17592186044416) (b2 : Nat) (Z1 : Option Addr) (cz1 : Nat) (m3 : List Int) (e2 : Int) (hx4 : m3[0]? = some e2) : (Nat × (List Int)) → Act → World → Prop := fun (s : Nat × (List Int)) a w => ∃ (v2 : Value), St w0 w [Own.blk b2 (.cells #[v2] 24 (0, 0)), Own.blk b1 (.cells #[.int .i64 0, .int .i64 0] 40 (0, 0)), Own.of v2 3 s.2] ∧ Frm 120 a [(0, .slice A0 l0.length c0), (2, .pointer (some ⟨b1, 0, none⟩)), (3, .pointer (some ⟨b2, 0, none⟩)), (5, .func (.func 106) #[] #[.pointer (some ⟨b2, 0, none⟩)]), (28, .slice A0 l0.length c0), (29, .int .i64 (l0.length : Int)), (30, .int .i64 (s.1 : Int))]
abbrev mach_heights.B1 (K : Nat) (w0 : World) (l0 : List SIns) (A0 : Option Addr) (c0 : Nat) (hR0 : RdL w0 A0 l0) (hL0 : l0.length ≤ c0) (b1 : Nat) (hc1 : 0 ≤ (IntKind.i64.wrap ((l0.length : Int) + 1))) (hc2 : ((IntKind.i64.wrap ((l0.length : Int) + 1)).toNat) ≤ 17592186044416) (b2 : Nat) (Z1 : Option Addr) (cz1 : Nat) (m3 : List Int) (e2 : Int) (hx4 : m3[0]? = some e2) : ((List Int) ⊕ SFault) → Exit → Act → World → Prop := Exits 2 (fun (s : (List Int)) a w => ∃ (v3 : Value), St w0 w [Own.blk b2 (.cells #[v3] 24 (0, 0)), Own.blk b1 (.cells #[.int .i64 0, .int .i64 0] 40 (0, 0)), Own.of v3 3 s] ∧ Frm 120 a [(0, .slice A0 l0.length c0), (2, .pointer (some ⟨b1, 0, none⟩)), (3, .pointer (some ⟨b2, 0, none⟩))]) (Rets Try.prog Try.f86 (mach_heights.Post w0))
theorem mach_heights_r1 (K : Nat) (w0 : World) (l0 : List SIns) (A0 : Option Addr) (c0 : Nat) (hR0 : RdL w0 A0 l0) (hL0 : l0.length ≤ c0) (b1 : Nat) (hc1 : 0 ≤ (IntKind.i64.wrap ((l0.length : Int) + 1))) (hc2 : ((IntKind.i64.wrap ((l0.length : Int) + 1)).toNat) ≤ 17592186044416) (b2 : Nat) (Z1 : Option Addr) (cz1 : Nat) (m3 : List Int) (e2 : Int) (hx4 : m3[0]? = some e2) (s : Nat × (List Int)) (o : (Nat × (List Int)) ⊕ ((List Int) ⊕ SFault)) (h : mach_heights.r1 l0 s = some o) (a : Act) (w : World) (hA : mach_heights.A1 K w0 l0 A0 c0 hR0 hL0 b1 hc1 hc2 b2 Z1 cz1 m3 e2 hx4 s a w) (Q : Exit → Act → World → Prop) (hQ : ∀ x a w, Outs (mach_heights.A1 K w0 l0 A0 c0 hR0 hL0 b1 hc1 hc2 b2 Z1 cz1 m3 e2 hx4) (mach_heights.B1 K w0 l0 A0 c0 hR0 hL0 b1 hc1 hc2 b2 Z1 cz1 m3 e2 hx4) o x a w → Q x a w) : (subF Try.f86 [1, 1, 1, 1, 1, 0, 1, 0, 0]).wp Try.prog Q a w := by
  obtain ⟨i1, m4⟩ := s
  obtain ⟨v2, hS, hF⟩ := hA
  replace hS : St w0 w [Own.blk b2 (.cells #[v2] 24 (0, 0)), Own.blk b1 (.cells #[.int .i64 0, .int .i64 0] 40 (0, 0)), Own.of v2 3 m4] := hS
  simp only [mach_heights.r1] at h
  refine (?_ : WE Try.prog 120 (subF Try.f86 [1, 1, 1, 1, 1, 0, 1, 0, 0]) Q [(0, .slice A0 l0.length c0), (2, .pointer (some ⟨b1, 0, none⟩)), (3, .pointer (some ⟨b2, 0, none⟩)), (5, .func (.func 106) #[] #[.pointer (some ⟨b2, 0, none⟩)]), (28, .slice A0 l0.length c0), (29, .int .i64 (l0.length : Int)), (30, .int .i64 (i1 : Int))] w) a hF
  clear hF a
  refine we_seq fun K13 hK13 => ?_
  refine we_region [(0, 0)] rfl ?_
  refine ge_batch [0] (ans := []) (vs := [(31, .bool (decide ((i1 : Int) < (l0.length : Int))))]) (l := []) (by kernel_rfl) trivial ?_
  refine ge_nil fun a hF => hK13 _ _ ?_ a hF
  refine we_seq fun K14 hK14 => ?_
  by_cases hc5 : (i1 : Int) < (l0.length : Int)
  · rw [if_pos hc5] at h
    refine we_known (t := 31) (b := decide ((i1 : Int) < (l0.length : Int))) (v := true) (by kernel_rfl) (decide_eq_true hc5) ?_
    refine we_true (by kernel_rfl) ?_
    refine we_skip fun a hF => hK14 _ _ ?_ a hF
    refine we_seq fun K15 hK15 => ?_
    refine we_block ?_
    refine we_seq fun K16 hK16 => ?_
    refine we_region [(0, 0), (1, 0), (2, 0), (3, 1), (4, 0), (5, 2)] rfl ?_
    refine ge_batch [0] (ans := []) (vs := [(32, .int .i64 (i1 : Int))]) (l := []) (by kernel_rfl) trivial ?_
    rcases hx5 : l0[i1]? with _ | e3
    · rw [hx5] at h; cases h
    rw [hx5] at h
    simp only [] at h
    refine ge_index (d := 33) (ty := 0) (t := 68) (el := 29) (sz := 3) (m := l0.length) (c := c0) (x := (.tmp 28)) (y := (.tmp 30)) (A := A0) (k' := .i64) (j := (i1 : Int)) (jn := i1) (b0 := blkOf A0) (o0 := offOf A0) (by kernel_rfl) (by kernel_rfl) (by kernel_rfl) (by kernel_rfl) (by kernel_rfl) ((hS.rd hR0).eqSome (pos_of_get hx5)) rfl (lt_of_get hx5) ?_
    refine ge_batch [2] (ans := [.val (.int .i64 e3.Op), .val (.int .i64 e3.A), .val (.int .i64 e3.B)]) (vs := [(34, .agg #[.int .i64 e3.Op, .int .i64 e3.A, .int .i64 e3.B])]) (l := [.loaded ⟨blkOf A0, offOf A0 + i1 * 3, none⟩ (.int .i64 e3.Op), .loaded ⟨blkOf A0, offOf A0 + i1 * 3 + 1, none⟩ (.int .i64 e3.A), .loaded ⟨blkOf A0, offOf A0 + i1 * 3 + 2, none⟩ (.int .i64 e3.B)]) (by kernel_rfl) ⟨RdL.cell (j := 0) (hS.rd hR0) hx5 rfl, RdL.cell (j := 1) (hS.rd hR0) hx5 rfl, RdL.cell (j := 2) (hS.rd hR0) hx5 rfl, trivial⟩ ?_
    refine ge_new (d := some 7) (o := .cells #[.int .i64 0, .int .i64 0, .int .i64 0] 29) (v := fun b => .pointer (some ⟨b, 0, none⟩)) hS (fun b => by kernel_rfl) fun b3 w8 hx6 hS25 => ?_
    refine ge_batch [4] (ans := []) (vs := [(6, .int .i64 (i1 : Int))]) (l := []) (by kernel_rfl) trivial ?_
    refine ge_set (b := b3) (j := 0) (cs := #[.int .i64 0, .int .i64 0, .int .i64 0]) (t := 29) (vs := [.int .i64 e3.Op, .int .i64 e3.A, .int .i64 e3.B]) hS25 (by kernel_rfl) rfl rfl fun w9 hS26 => ?_
    have hS27 : St w0 w9 [Own.blk b3 (.cells #[.int .i64 e3.Op, .int .i64 e3.A, .int .i64 e3.B] 29 (0, 0)), Own.blk b2 (.cells #[v2] 24 (0, 0)), Own.blk b1 (.cells #[.int .i64 0, .int .i64 0] 40 (0, 0)), Own.of v2 3 m4] := hS26
    refine ge_nil fun a hF => hK16 _ _ ?_ a hF
    refine we_seq fun K17 hK17 => ?_
    refine we_region [(0, 0), (1, 0), (2, 0), (3, 0), (4, 0)] rfl ?_
    refine ge_batch [0, 1] (ans := [.val (v2)]) (vs := [(36, .int .i64 (i1 : Int)), (35, v2)]) (l := [.loaded ⟨b2, 0, none⟩ (v2)]) (by kernel_rfl) ⟨hS27.cell 1 rfl rfl, trivial⟩ ?_
    obtain ⟨Z2, cz2, rfl⟩ := hS27.open 3 rfl
    rcases hx7 : m4[i1]? with _ | e4
    · rw [hx7] at h; cases h
    rw [hx7] at h
    simp only [] at h
    refine ge_index (d := 37) (ty := 0) (t := 24) (el := 3) (sz := 1) (m := m4.length) (c := cz2) (x := (.tmp 35)) (y := (.tmp 36)) (A := Z2) (k' := .i64) (j := (i1 : Int)) (jn := i1) (b0 := blkOf Z2) (o0 := offOf Z2) (by kernel_rfl) (by kernel_rfl) (by kernel_rfl) (by kernel_rfl) (by kernel_rfl) ((hS27.rdAt 3 rfl).eqSome (pos_of_get hx7)) rfl (lt_of_get hx7) ?_
    refine ge_batch [3, 4] (ans := [.val (.int .i64 e4)]) (vs := [(8, .int .i64 e4), (38, .int .i64 e4)]) (l := [.loaded ⟨blkOf Z2, offOf Z2 + i1 * 1, none⟩ (.int .i64 e4)]) (by kernel_rfl) ⟨RdL.cell (j := 0) (hS27.rdAt 3 rfl) hx7 rfl, trivial⟩ ?_
    refine ge_nil fun a hF => hK17 _ _ ?_ a hF
    refine we_seq fun K18 hK18 => ?_
    refine we_seq fun K19 hK19 => ?_
    refine we_region [(0, 0), (1, 0)] rfl ?_
    refine ge_batch [0, 1] (ans := []) (vs := [(40, .bool (decide (e4 < 0))), (39, .int .i64 e4)]) (l := []) (by kernel_rfl) trivial ?_
    refine ge_nil fun a hF => hK19 _ _ ?_ a hF
    by_cases hc6 : e4 < 0
    · rw [if_pos hc6] at h
      refine we_known (t := 40) (b := decide (e4 < 0)) (v := true) (by kernel_rfl) (decide_eq_true hc6) ?_
      refine we_true (by kernel_rfl) ?_
      refine we_seq fun K20 hK20 => ?_
      refine we_region [(0, 0), (1, 0), (2, 2)] rfl ?_
      refine ge_batch [0, 1] (ans := []) (vs := [(42, .agg #[.int .i64 7, .int .i64 (i1 : Int)]), (41, .int .i64 (i1 : Int))]) (l := []) (by kernel_rfl) trivial ?_
      have hS28 := hS27.bring 2 rfl
      refine ge_set (b := b1) (j := 0) (cs := #[.int .i64 0, .int .i64 0]) (t := 40) (vs := [.int .i64 7, .int .i64 (i1 : Int)]) hS28 (by kernel_rfl) rfl rfl fun w10 hS29 => ?_
      have hS30 : St w0 w10 [Own.blk b1 (.cells #[.int .i64 7, .int .i64 (i1 : Int)] 40 (0, 0)), Own.blk b3 (.cells #[.int .i64 e3.Op, .int .i64 e3.A, .int .i64 e3.B] 29 (0, 0)), Own.blk b2 (.cells #[(.slice Z2 m4.length cz2)] 24 (0, 0)), Own.of (.slice Z2 m4.length cz2) 3 m4] := hS29
      refine ge_nil fun a hF => hK20 _ _ ?_ a hF
      have hS31 := hS30.takeN 0
      obtain rfl := Option.some.inj h
      exact we_ret fun a hF => hQ _ _ _ (Outs.out nofun (Exits.on ⟨rfl, (post_ret (rs := [.cell 2 40]) (ans := [.val (.int .i64 7), .val (.int .i64 (i1 : Int))]) (vs := [.agg #[.int .i64 7, .int .i64 (i1 : Int)]]) (l := [.loaded ⟨b1, 0, none⟩ (.int .i64 7), .loaded ⟨b1, 1, none⟩ (.int .i64 (i1 : Int))]) rfl (by kernel_rfl) ⟨hS30.cell 0 rfl rfl, hS30.cell 0 rfl rfl, trivial⟩ ⟨rfl, hS31⟩) a hF⟩))
    · rw [if_neg hc6] at h
      refine we_known (t := 40) (b := decide (e4 < 0)) (v := false) (by kernel_rfl) (decide_eq_false hc6) ?_
      refine we_false (by kernel_rfl) ?_
      refine we_skip fun a hF => hK18 _ _ ?_ a hF
      refine we_seq fun K21 hK21 => ?_
      refine we_region [(0, 0), (1, 0), (2, 1), (3, 0), (4, 0), (5, 0), (6, 0), (7, 0)] rfl ?_
      refine ge_batch [0, 1] (ans := [.val (.int .i64 e3.Op)]) (vs := [(45, .int .i64 e3.Op), (44, .pointer (some ⟨b3, 0, none⟩))]) (l := [.loaded ⟨b3, 0, none⟩ (.int .i64 e3.Op)]) (by kernel_rfl) ⟨hS27.cell 0 rfl rfl, trivial⟩ ?_
      refine ge_call (d := some 46) (f := 107) (args := #[.int .i64 e3.Op]) (by kernel_rfl) (mach_pops_ok e3.Op _ _ rfl) ?_
      rintro _ w11 ⟨rfl, hS32⟩
      refine ⟨_, rfl, hS32.below, ?_⟩
      have hS33 := hS27.call hS32
      refine ge_batch [3, 4, 5, 6, 7] (ans := []) (vs := [(10, .int .i64 ((mach_pops.f e3.Op).2)), (9, .int .i64 ((mach_pops.f e3.Op).1)), (48, .int .i64 ((mach_pops.f e3.Op).2)), (47, .int .i64 ((mach_pops.f e3.Op).1)), (43, .tuple #[.int .i64 ((mach_pops.f e3.Op).1), .int .i64 ((mach_pops.f e3.Op).2)])]) (l := []) (by kernel_rfl) trivial ?_
      refine ge_nil fun a hF => hK21 _ _ ?_ a hF
      refine we_seq fun K22 hK22 => ?_
      refine we_region [(0, 0), (1, 0), (2, 0), (3, 0), (4, 0), (5, 0), (6, 0), (7, 0), (8, 0), (9, 0), (10, 0), (11, 0)] rfl ?_
      refine ge_batch [0, 1, 2, 3] (ans := []) (vs := [(52, .bool (decide (e4 ≥ ((mach_pops.f e3.Op).1)))), (51, .bool (decide (e4 ≥ ((mach_pops.f e3.Op).1)))), (50, .int .i64 ((mach_pops.f e3.Op).1)), (49, .int .i64 e4)]) (l := []) (by kernel_rfl) trivial ?_
      by_cases hc7 : e4 ≥ ((mach_pops.f e3.Op).1)
      · rw [if_pos hc7] at h
        refine ge_known (t := 52) (b := decide (e4 ≥ ((mach_pops.f e3.Op).1))) (c := true) (by kernel_rfl) (decide_eq_true hc7) ?_
        refine ge_batch [4, 5, 6, 7, 8, 9, 10, 11] (ans := []) (vs := [(11, .bool (decide ((IntKind.i64.wrap ((IntKind.i64.wrap (e4 - ((mach_pops.f e3.Op).1))) + ((mach_pops.f e3.Op).2))) ≤ 20))), (59, .bool (decide ((IntKind.i64.wrap ((IntKind.i64.wrap (e4 - ((mach_pops.f e3.Op).1))) + ((mach_pops.f e3.Op).2))) ≤ 20))), (58, .bool (decide ((IntKind.i64.wrap ((IntKind.i64.wrap (e4 - ((mach_pops.f e3.Op).1))) + ((mach_pops.f e3.Op).2))) ≤ 20))), (57, .int .i64 (IntKind.i64.wrap ((IntKind.i64.wrap (e4 - ((mach_pops.f e3.Op).1))) + ((mach_pops.f e3.Op).2)))), (56, .int .i64 ((mach_pops.f e3.Op).2)), (55, .int .i64 (IntKind.i64.wrap (e4 - ((mach_pops.f e3.Op).1)))), (54, .int .i64 ((mach_pops.f e3.Op).1)), (53, .int .i64 e4)]) (l := []) (by kernel_rfl) trivial ?_
        refine ge_nil fun a hF => hK22 _ _ ?_ a hF
        refine we_seq fun K23 hK23 => ?_
        refine we_region [(0, 0), (1, 0), (2, 0), (3, 0), (4, 0), (5, 0)] rfl ?_
        refine ge_batch [0, 1, 2, 3, 4, 5] (ans := []) (vs := [(8, .int .i64 (IntKind.i64.wrap (e4 + (IntKind.i64.wrap (((mach_pops.f e3.Op).2) - ((mach_pops.f e3.Op).1)))))), (64, .int .i64 (IntKind.i64.wrap (e4 + (IntKind.i64.wrap (((mach_pops.f e3.Op).2) - ((mach_pops.f e3.Op).1)))))), (63, .int .i64 (IntKind.i64.wrap (((mach_pops.f e3.Op).2) - ((mach_pops.f e3.Op).1)))), (62, .int .i64 ((mach_pops.f e3.Op).1)), (61, .int .i64 ((mach_pops.f e3.Op).2)), (60, .int .i64 e4)]) (l := []) (by kernel_rfl) trivial ?_
        refine ge_nil fun a hF => hK23 _ _ ?_ a hF
        refine we_seq fun K24 hK24 => ?_
        rcases hq5 : mach_heights.p2 m4 e3 e4 with _ | (⟨q2, m7⟩ | rr1)
        · rw [hq5] at h; cases h
        · rw [hq5] at h
          simp only [] at h
          refine we_keep (e' := ((0, .slice A0 l0.length c0) :: (2, .pointer (some ⟨b1, 0, none⟩)) :: (3, .pointer (some ⟨b2, 0, none⟩)) :: (5, .func (.func 106) #[] #[.pointer (some ⟨b2, 0, none⟩)]) :: (6, .int .i64 (i1 : Int)) :: (7, .pointer (some ⟨b3, 0, none⟩)) :: (8, .int .i64 (IntKind.i64.wrap (e4 + (IntKind.i64.wrap (((mach_pops.f e3.Op).2) - ((mach_pops.f e3.Op).1)))))) :: (9, .int .i64 ((mach_pops.f e3.Op).1)) :: (10, .int .i64 ((mach_pops.f e3.Op).2)) :: (11, .bool (decide ((IntKind.i64.wrap ((IntKind.i64.wrap (e4 - ((mach_pops.f e3.Op).1))) + ((mach_pops.f e3.Op).2))) ≤ 20))) :: (28, .slice A0 l0.length c0) :: (29, .int .i64 (l0.length : Int)) :: (30, .int .i64 (i1 : Int)) :: (31, .bool true) :: (32, .int .i64 (i1 : Int)) :: (33, .pointer (some ⟨blkOf A0, offOf A0 + i1 * 3, none⟩)) :: (34, .agg #[.int .i64 e3.Op, .int .i64 e3.A, .int .i64 e3.B]) :: (35, (.slice Z2 m4.length cz2)) :: (36, .int .i64 (i1 : Int)) :: (37, .pointer (some ⟨blkOf Z2, offOf Z2 + i1 * 1, none⟩)) :: (38, .int .i64 e4) :: (39, .int .i64 e4) :: (40, .bool false) :: (43, .tuple #[.int .i64 ((mach_pops.f e3.Op).1), .int .i64 ((mach_pops.f e3.Op).2)]) :: (44, .pointer (some ⟨b3, 0, none⟩)) :: (45, .int .i64 e3.Op) :: (46, .tuple #[.int .i64 ((mach_pops.f e3.Op).1), .int .i64 ((mach_pops.f e3.Op).2)]) :: (47, .int .i64 ((mach_pops.f e3.Op).1)) :: (48, .int .i64 ((mach_pops.f e3.Op).2)) :: (49, .int .i64 e4) :: (50, .int .i64 ((mach_pops.f e3.Op).1)) :: (51, .bool (decide (e4 ≥ ((mach_pops.f e3.Op).1)))) :: (52, .bool true) :: (53, .int .i64 e4) :: (54, .int .i64 ((mach_pops.f e3.Op).1)) :: (55, .int .i64 (IntKind.i64.wrap (e4 - ((mach_pops.f e3.Op).1)))) :: (56, .int .i64 ((mach_pops.f e3.Op).2)) :: (57, .int .i64 (IntKind.i64.wrap ((IntKind.i64.wrap (e4 - ((mach_pops.f e3.Op).1))) + ((mach_pops.f e3.Op).2)))) :: (58, .bool (decide ((IntKind.i64.wrap ((IntKind.i64.wrap (e4 - ((mach_pops.f e3.Op).1))) + ((mach_pops.f e3.Op).2))) ≤ 20))) :: (59, .bool (decide ((IntKind.i64.wrap ((IntKind.i64.wrap (e4 - ((mach_pops.f e3.Op).1))) + ((mach_pops.f e3.Op).2))) ≤ 20))) :: (60, .int .i64 e4) :: (61, .int .i64 ((mach_pops.f e3.Op).2)) :: (62, .int .i64 ((mach_pops.f e3.Op).1)) :: (63, .int .i64 (IntKind.i64.wrap (((mach_pops.f e3.Op).2) - ((mach_pops.f e3.Op).1)))) :: (64, .int .i64 (IntKind.i64.wrap (e4 + (IntKind.i64.wrap (((mach_pops.f e3.Op).2) - ((mach_pops.f e3.Op).1)))))) :: [])) ⟨by kernel_rfl, by kernel_rfl, by kernel_rfl, by kernel_rfl, by kernel_rfl, by kernel_rfl, by kernel_rfl, by kernel_rfl, by kernel_rfl, by kernel_rfl, by kernel_rfl, by kernel_rfl, by kernel_rfl, by kernel_rfl, by kernel_rfl, by kernel_rfl, by kernel_rfl, by kernel_rfl, by kernel_rfl, by kernel_rfl, by kernel_rfl, by kernel_rfl, by kernel_rfl, by kernel_rfl, by kernel_rfl, by kernel_rfl, by kernel_rfl, by kernel_rfl, by kernel_rfl, by kernel_rfl, by kernel_rfl, by kernel_rfl, by kernel_rfl, by kernel_rfl, by kernel_rfl, by kernel_rfl, by kernel_rfl, by kernel_rfl, by kernel_rfl, by kernel_rfl, by kernel_rfl, by kernel_rfl, by kernel_rfl, by kernel_rfl, by kernel_rfl, trivial⟩ (mach_heights_p2 K w0 l0 A0 c0 hR0 hL0 b1 hc1 hc2 b2 Z1 cz1 m3 e2 hx4 i1 m4 hc5 e3 hx5 b3 Z2 cz2 e4 hx7 hc6 hc7 _ hq5 _ hS33 _ ?_)
          rintro _ a w14 ⟨rfl, v7, hS64, hF⟩
          replace hS64 : St w0 w14 [Own.blk b3 (.cells #[.int .i64 e3.Op, .int .i64 e3.A, .int .i64 e3.B] 29 (0, 0)), Own.blk b2 (.cells #[v7] 24 (0, 0)), Own.blk b1 (.cells #[.int .i64 0, .int .i64 0] 40 (0, 0)), Own.of v7 3 m7] := hS64
          refine hK24 [(0, .slice A0 l0.length c0), (2, .pointer (some ⟨b1, 0, none⟩)), (3, .pointer (some ⟨b2, 0, none⟩)), (5, .func (.func 106) #[] #[.pointer (some ⟨b2, 0, none⟩)]), (6, .int .i64 (i1 : Int)), (7, .pointer (some ⟨b3, 0, none⟩)), (8, .int .i64 (IntKind.i64.wrap (e4 + (IntKind.i64.wrap (((mach_pops.f e3.Op).2) - ((mach_pops.f e3.Op).1)))))), (11, .bool q2), (28, .slice A0 l0.length c0), (29, .int .i64 (l0.length : Int)), (30, .int .i64 (i1 : Int))] w14 ?_ a hF
          refine we_seq fun K26 hK26 => ?_
          refine we_seq fun K27 hK27 => ?_
          refine we_region [(0, 0), (1, 0), (2, 0)] rfl ?_
          refine ge_batch [0, 1, 2] (ans := [.val (.int .i64 e3.Op)]) (vs := [(83, .bool (e3.Op == 14)), (82, .int .i64 e3.Op), (81, .pointer (some ⟨b3, 0, none⟩))]) (l := [.loaded ⟨b3, 0, none⟩ (.int .i64 e3.Op)]) (by kernel_rfl) ⟨hS64.cell 0 rfl rfl, trivial⟩ ?_
          refine ge_nil fun a hF => hK27 _ _ ?_ a hF
          by_cases hc12 : e3.Op = 14
          · rw [if_pos hc12] at h
            refine we_known (t := 83) (b := (e3.Op == 14)) (v := true) (by kernel_rfl) (beq_iff_eq.2 hc12) ?_
            refine we_true (by kernel_rfl) ?_
            refine we_region [(0, 0), (1, 0), (2, 0), (3, 0), (4, 0), (5, 0), (6, 0), (7, 0), (8, 0), (9, 0), (10, 0)] rfl ?_
            refine ge_batch [0, 1] (ans := []) (vs := [(85, .bool q2), (84, .bool q2)]) (l := []) (by kernel_rfl) trivial ?_
            by_cases hc13 : q2 = true
            · rw [if_pos hc13] at h
              refine ge_known (t := 85) (b := q2) (c := true) (by kernel_rfl) hc13 ?_
              refine ge_batch [2, 3, 4] (ans := [.val (v7), .val (.int .i64 e3.B)]) (vs := [(88, .int .i64 e3.B), (87, .pointer (some ⟨b3, 2, none⟩)), (86, v7)]) (l := [.loaded ⟨b2, 0, none⟩ (v7), .loaded ⟨b3, 2, none⟩ (.int .i64 e3.B)]) (by kernel_rfl) ⟨hS64.cell 1 rfl rfl, hS64.cell 0 rfl rfl, trivial⟩ ?_
              obtain ⟨Z3, cz3, rfl⟩ := hS64.open 3 rfl
              by_cases hc14 : 0 ≤ e3.B
              · rw [if_pos hc14] at h
                rcases hx8 : m7[(e3.B).toNat]? with _ | e5
                · rw [hx8] at h; cases h
                rw [hx8] at h
                simp only [] at h
                refine ge_index (d := 89) (ty := 0) (t := 24) (el := 3) (sz := 1) (m := m7.length) (c := cz3) (x := (.tmp 86)) (y := (.tmp 88)) (A := Z3) (k' := .i64) (j := e3.B) (jn := ((e3.B).toNat)) (b0 := blkOf Z3) (o0 := offOf Z3) (by kernel_rfl) (by kernel_rfl) (by kernel_rfl) (by kernel_rfl) (by kernel_rfl) ((hS64.rdAt 3 rfl).eqSome (pos_of_get hx8)) (Int.toNat_of_nonneg hc14).symm (lt_of_get hx8) ?_
                refine ge_batch [6, 7, 8, 9, 10] (ans := [.val (.int .i64 e5)]) (vs := [(11, .bool (e5 == (IntKind.i64.wrap (e4 + (IntKind.i64.wrap (((mach_pops.f e3.Op).2) - ((mach_pops.f e3.Op).1))))))), (93, .bool (e5 == (IntKind.i64.wrap (e4 + (IntKind.i64.wrap (((mach_pops.f e3.Op).2) - ((mach_pops.f e3.Op).1))))))), (92, .bool (e5 == (IntKind.i64.wrap (e4 + (IntKind.i64.wrap (((mach_pops.f e3.Op).2) - ((mach_pops.f e3.Op).1))))))), (91, .int .i64 (IntKind.i64.wrap (e4 + (IntKind.i64.wrap (((mach_pops.f e3.Op).2) - ((mach_pops.f e3.Op).1)))))), (90, .int .i64 e5)]) (l := [.loaded ⟨blkOf Z3, offOf Z3 + ((e3.B).toNat) * 1, none⟩ (.int .i64 e5)]) (by kernel_rfl) ⟨RdL.cell (j := 0) (hS64.rdAt 3 rfl) hx8 rfl, trivial⟩ ?_
                refine ge_nil fun a hF => hK26 _ _ ?_ a hF
                refine we_seq fun K28 hK28 => ?_
                refine we_seq fun K29 hK29 => ?_
                refine we_region [(0, 0), (1, 0), (2, 0)] rfl ?_
                refine ge_batch [0, 1, 2] (ans := [.val (.int .i64 e3.Op)]) (vs := [(96, .bool (e3.Op != 11)), (95, .int .i64 e3.Op), (94, .pointer (some ⟨b3, 0, none⟩))]) (l := [.loaded ⟨b3, 0, none⟩ (.int .i64 e3.Op)]) (by kernel_rfl) ⟨hS64.cell 0 rfl rfl, trivial⟩ ?_
                refine ge_nil fun a hF => hK29 _ _ ?_ a hF
                by_cases hc15 : e3.Op = 11
                · rw [if_pos hc15] at h
                  refine we_known (t := 96) (b := (e3.Op != 11)) (v := false) (by kernel_rfl) (bne_eq_false_iff_eq.2 hc15) ?_
                  refine we_false (by kernel_rfl) ?_
                  refine we_skip fun a hF => hK28 _ _ ?_ a hF
                  refine we_seq fun K30 hK30 => ?_
                  refine we_region [(0, 0), (1, 0)] rfl ?_
                  refine ge_batch [0, 1] (ans := []) (vs := [(106, .bool (!(e5 == (IntKind.i64.wrap (e4 + (IntKind.i64.wrap (((mach_pops.f e3.Op).2) - ((mach_pops.f e3.Op).1)))))))), (105, .bool (e5 == (IntKind.i64.wrap (e4 + (IntKind.i64.wrap (((mach_pops.f e3.Op).2) - ((mach_pops.f e3.Op).1)))))))]) (l := []) (by kernel_rfl) trivial ?_
                  refine ge_nil fun a hF => hK30 _ _ ?_ a hF
                  by_cases hc16 : e5 = (IntKind.i64.wrap (e4 + (IntKind.i64.wrap (((mach_pops.f e3.Op).2) - ((mach_pops.f e3.Op).1)))))
                  · rw [if_pos hc16] at h
                    refine we_known (t := 106) (b := !(e5 == (IntKind.i64.wrap (e4 + (IntKind.i64.wrap (((mach_pops.f e3.Op).2) - ((mach_pops.f e3.Op).1))))))) (v := false) (by kernel_rfl) (congrArg (fun z => !z) (beq_iff_eq.2 hc16)) ?_
                    refine we_false (by kernel_rfl) ?_
                    refine we_skip fun a hF => hK15 _ _ ?_ a hF
                    refine we_region [(0, 0), (1, 0)] rfl ?_
                    refine ge_addn (d := 109) (ty := 3) (x := (.tmp 30)) (y := (.const (.int .i64 1))) (t := 3) (t2 := 3) (k := .i64) (m := i1) (by kernel_rfl) (by kernel_rfl) (by kernel_rfl) (by have h0 := hR0.small; omega) ?_
                    refine ge_batch [1] (ans := []) (vs := [(30, .int .i64 ((i1 + 1 : Nat) : Int))]) (l := []) (by kernel_rfl) trivial ?_
                    have hS65 := hS64.bring 3 rfl
                    have hS66 := hS65.bring 3 rfl
                    have hS67 := hS66.bring 3 rfl
                    have hS68 := hS67.takeN 3
                    obtain rfl := Option.some.inj h
                    exact ge_nil fun a hF => hQ _ _ _ (Outs.again ⟨(.slice Z3 m7.length cz3), hS68, hF.weaken ⟨by kernel_rfl, by kernel_rfl, by kernel_rfl, by kernel_rfl, by kernel_rfl, by kernel_rfl, by kernel_rfl, trivial⟩⟩)
                  · rw [if_neg hc16] at h
                    refine we_known (t := 106) (b := !(e5 == (IntKind.i64.wrap (e4 + (IntKind.i64.wrap (((mach_pops.f e3.Op).2) - ((mach_pops.f e3.Op).1))))))) (v := true) (by kernel_rfl) (congrArg (fun z => !z) (beq_eq_false_iff_ne.2 hc16)) ?_
                    refine we_true (by kernel_rfl) ?_
                    refine we_seq fun K31 hK31 => ?_
                    refine we_region [(0, 0), (1, 0), (2, 2)] rfl ?_
                    refine ge_batch [0, 1] (ans := []) (vs := [(108, .agg #[.int .i64 8, .int .i64 (i1 : Int)]), (107, .int .i64 (i1 : Int))]) (l := []) (by kernel_rfl) trivial ?_
                    have hS69 := hS64.bring 2 rfl
                    refine ge_set (b := b1) (j := 0) (cs := #[.int .i64 0, .int .i64 0]) (t := 40) (vs := [.int .i64 8, .int .i64 (i1 : Int)]) hS69 (by kernel_rfl) rfl rfl fun w15 hS70 => ?_
                    have hS71 : St w0 w15 [Own.blk b1 (.cells #[.int .i64 8, .int .i64 (i1 : Int)] 40 (0, 0)), Own.blk b3 (.cells #[.int .i64 e3.Op, .int .i64 e3.A, .int .i64 e3.B] 29 (0, 0)), Own.blk b2 (.cells #[(.slice Z3 m7.length cz3)] 24 (0, 0)), Own.of (.slice Z3 m7.length cz3) 3 m7] := hS70
                    refine ge_nil fun a hF => hK31 _ _ ?_ a hF
                    have hS72 := hS71.takeN 0
                    obtain rfl := Option.some.inj h
                    exact we_ret fun a hF => hQ _ _ _ (Outs.out nofun (Exits.on ⟨rfl, (post_ret (rs := [.cell 2 40]) (ans := [.val (.int .i64 8), .val (.int .i64 (i1 : Int))]) (vs := [.agg #[.int .i64 8, .int .i64 (i1 : Int)]]) (l := [.loaded ⟨b1, 0, none⟩ (.int .i64 8), .loaded ⟨b1, 1, none⟩ (.int .i64 (i1 : Int))]) rfl (by kernel_rfl) ⟨hS71.cell 0 rfl rfl, hS71.cell 0 rfl rfl, trivial⟩ ⟨rfl, hS72⟩) a hF⟩))
                · rw [if_neg hc15] at h
                  refine we_known (t := 96) (b := (e3.Op != 11)) (v := true) (by kernel_rfl) (bne_iff_ne.2 hc15) ?_
                  refine we_true (by kernel_rfl) ?_
                  refine we_region [(0, 0), (1, 0), (2, 0), (3, 0), (4, 0), (5, 0), (6, 2), (7, 0), (8, 0)] rfl ?_
                  refine ge_batch [0, 1] (ans := []) (vs := [(98, .bool (e5 == (IntKind.i64.wrap (e4 + (IntKind.i64.wrap (((mach_pops.f e3.Op).2) - ((mach_pops.f e3.Op).1))))))), (97, .bool (e5 == (IntKind.i64.wrap (e4 + (IntKind.i64.wrap (((mach_pops.f e3.Op).2) - ((mach_pops.f e3.Op).1)))))))]) (l := []) (by kernel_rfl) trivial ?_
                  by_cases hc17 : e5 = (IntKind.i64.wrap (e4 + (IntKind.i64.wrap (((mach_pops.f e3.Op).2) - ((mach_pops.f e3.Op).1)))))
                  · rw [if_pos hc17] at h
                    refine ge_known (t := 98) (b := (e5 == (IntKind.i64.wrap (e4 + (IntKind.i64.wrap (((mach_pops.f e3.Op).2) - ((mach_pops.f e3.Op).1))))))) (c := true) (by kernel_rfl) (beq_iff_eq.2 hc17) ?_
                    refine ge_batch [2, 3] (ans := []) (vs := [(100, .int .i64 (i1 : Int)), (99, .func (.func 106) #[] #[.pointer (some ⟨b2, 0, none⟩)])]) (l := []) (by kernel_rfl) trivial ?_
                    refine ge_addn (d := 101) (ty := 3) (x := (.tmp 100)) (y := (.const (.int .i64 1))) (t := 3) (t2 := 3) (k := .i64) (m := i1) (by kernel_rfl) (by kernel_rfl) (by kernel_rfl) (by have h0 := hR0.small; omega) ?_
                    refine ge_batch [5] (ans := []) (vs := [(102, .int .i64 (IntKind.i64.wrap (e4 + (IntKind.i64.wrap (((mach_pops.f e3.Op).2) - ((mach_pops.f e3.Op).1))))))]) (l := []) (by kernel_rfl) trivial ?_
                    rcases hq6 : mach_heights_1.f ((i1 + 1 : Nat) : Int) (IntKind.i64.wrap (e4 + (IntKind.i64.wrap (((mach_pops.f e3.Op).2) - ((mach_pops.f e3.Op).1))))) m7 with _ | r3
                    · rw [hq6] at h; cases h
                    rw [hq6] at h
                    simp only [] at h
                    have hS73 := hS64.bring 3 rfl
                    have hS74 := hS73.bring 2 rfl
                    have hS76 : St w0 w14 [Own.blk b2 (.cells #[(.slice Z3 m7.length cz3)] 24 (0, 0)), Own.of (.slice Z3 m7.length cz3) 3 m7, Own.all [Own.blk b3 (.cells #[.int .i64 e3.Op, .int .i64 e3.A, .int .i64 e3.B] 29 (0, 0)), Own.blk b1 (.cells #[.int .i64 0, .int .i64 0] 40 (0, 0))]] := hS74.packN 2
                    refine ge_call2 (m := 0) (d := some 103) (f := 106) (args := #[.int .i64 ((i1 + 1 : Nat) : Int), .int .i64 (IntKind.i64.wrap (e4 + (IntKind.i64.wrap (((mach_pops.f e3.Op).2) - ((mach_pops.f e3.Op).1))))), .pointer (some ⟨b2, 0, none⟩)]) (by kernel_rfl) (mach_heights_1_ok ((i1 + 1 : Nat) : Int) (IntKind.i64.wrap (e4 + (IntKind.i64.wrap (((mach_pops.f e3.Op).2) - ((mach_pops.f e3.Op).1))))) b2 m7 Z3 cz3 _ _ _ hS76 _ hq6) ?_
                    rintro _ w16 ⟨v8, rfl, hS75⟩
                    refine ⟨_, rfl, ?_⟩
                    have hS77 : St w0 w16 [Own.blk b2 (.cells #[v8] 24 (0, 0)), Own.of v8 3 r3.2, Own.blk b3 (.cells #[.int .i64 e3.Op, .int .i64 e3.A, .int .i64 e3.B] 29 (0, 0)), Own.blk b1 (.cells #[.int .i64 0, .int .i64 0] 40 (0, 0))] := hS75.unpack [Own.blk b2 (.cells #[v8] 24 (0, 0)), Own.of v8 3 r3.2]
                    refine ge_batch [7, 8] (ans := []) (vs := [(11, .bool r3.1), (104, .bool r3.1)]) (l := []) (by kernel_rfl) trivial ?_
                    refine ge_nil fun a hF => hK28 _ _ ?_ a hF
                    refine we_seq fun K32 hK32 => ?_
                    refine we_region [(0, 0), (1, 0)] rfl ?_
                    refine ge_batch [0, 1] (ans := []) (vs := [(106, .bool (!r3.1)), (105, .bool r3.1)]) (l := []) (by kernel_rfl) trivial ?_
                    refine ge_nil fun a hF => hK32 _ _ ?_ a hF
                    by_cases hc18 : r3.1 = true
                    · rw [if_pos hc18] at h
                      refine we_known (t := 106) (b := !r3.1) (v := false) (by kernel_rfl) (congrArg (fun z => !z) hc18) ?_
                      refine we_false (by kernel_rfl) ?_
                      refine we_skip fun a hF => hK15 _ _ ?_ a hF
                      refine we_region [(0, 0), (1, 0)] rfl ?_
                      refine ge_addn (d := 109) (ty := 3) (x := (.tmp 30)) (y := (.const (.int .i64 1))) (t := 3) (t2 := 3) (k := .i64) (m := i1) (by kernel_rfl) (by kernel_rfl) (by kernel_rfl) (by have h0 := hR0.small; omega) ?_
                      refine ge_batch [1] (ans := []) (vs := [(30, .int .i64 ((i1 + 1 : Nat) : Int))]) (l := []) (by kernel_rfl) trivial ?_
                      have hS78 := hS77.bring 1 rfl
                      have hS79 := hS78.bring 3 rfl
                      have hS80 := hS79.bring 2 rfl
                      have hS81 := hS80.takeN 3
                      obtain rfl := Option.some.inj h
                      exact ge_nil fun a hF => hQ _ _ _ (Outs.again ⟨v8, hS81, hF.weaken ⟨by kernel_rfl, by kernel_rfl, by kernel_rfl, by kernel_rfl, by kernel_rfl, by kernel_rfl, by kernel_rfl, trivial⟩⟩)
                    · rw [if_neg hc18] at h
                      refine we_known (t := 106) (b := !r3.1) (v := true) (by kernel_rfl) (congrArg (fun z => !z) (Bool.eq_false_iff.2 hc18)) ?_
                      refine we_true (by kernel_rfl) ?_
                      refine we_seq fun K33 hK33 => ?_
                      refine we_region [(0, 0), (1, 0), (2, 2)] rfl ?_
                      refine ge_batch [0, 1] (ans := []) (vs := [(108, .agg #[.int .i64 8, .int .i64 (i1 : Int)]), (107, .int .i64 (i1 : Int))]) (l := []) (by kernel_rfl) trivial ?_
                      have hS82 := hS77.bring 3 rfl
                      refine ge_set (b := b1) (j := 0) (cs := #[.int .i64 0, .int .i64 0]) (t := 40) (vs := [.int .i64 8, .int .i64 (i1 : Int)]) hS82 (by kernel_rfl) rfl rfl fun w17 hS83 => ?_
                      have hS84 : St w0 w17 [Own.blk b1 (.cells #[.int .i64 8, .int .i64 (i1 : Int)] 40 (0, 0)), Own.blk b2 (.cells #[v8] 24 (0, 0)), Own.of v8 3 r3.2, Own.blk b3 (.cells #[.int .i64 e3.Op, .int .i64 e3.A, .int .i64 e3.B] 29 (0, 0))] := hS83
                      refine ge_nil fun a hF => hK33 _ _ ?_ a hF
                      have hS85 := hS84.takeN 0
                      obtain rfl := Option.some.inj h
                      exact we_ret fun a hF => hQ _ _ _ (Outs.out nofun (Exits.on ⟨rfl, (post_ret (rs := [.cell 2 40]) (ans := [.val (.int .i64 8), .val (.int .i64 (i1 : Int))]) (vs := [.agg #[.int .i64 8, .int .i64 (i1 : Int)]]) (l := [.loaded ⟨b1, 0, none⟩ (.int .i64 8), .loaded ⟨b1, 1, none⟩ (.int .i64 (i1 : Int))]) rfl (by kernel_rfl) ⟨hS84.cell 0 rfl rfl, hS84.cell 0 rfl rfl, trivial⟩ ⟨rfl, hS85⟩) a hF⟩))
                  · rw [if_neg hc17] at h
                    refine ge_known (t := 98) (b := (e5 == (IntKind.i64.wrap (e4 + (IntKind.i64.wrap (((mach_pops.f e3.Op).2) - ((mach_pops.f e3.Op).1))))))) (c := false) (by kernel_rfl) (beq_eq_false_iff_ne.2 hc17) ?_
                    refine ge_batch [2, 3, 4, 5] (ans := []) (vs := [(102, undef), (101, undef), (100, undef), (99, undef)]) (l := []) (by kernel_rfl) trivial ?_
                    refine ge_off rfl rfl rfl (by kernel_rfl) ?_
                    refine ge_batch [7, 8] (ans := []) (vs := [(11, .bool false), (104, .bool false)]) (l := []) (by kernel_rfl) trivial ?_
                    refine ge_nil fun a hF => hK28 _ _ ?_ a hF
                    refine we_seq fun K34 hK34 => ?_
                    refine we_region [(0, 0), (1, 0)] rfl ?_
                    refine ge_batch [0, 1] (ans := []) (vs := [(106, .bool true), (105, .bool false)]) (l := []) (by kernel_rfl) trivial ?_
                    refine ge_nil fun a hF => hK34 _ _ ?_ a hF
                    refine we_true (by kernel_rfl) ?_
                    refine we_seq fun K35 hK35 => ?_
                    refine we_region [(0, 0), (1, 0), (2, 2)] rfl ?_
                    refine ge_batch [0, 1] (ans := []) (vs := [(108, .agg #[.int .i64 8, .int .i64 (i1 : Int)]), (107, .int .i64 (i1 : Int))]) (l := []) (by kernel_rfl) trivial ?_
                    have hS86 := hS64.bring 2 rfl
                    refine ge_set (b := b1) (j := 0) (cs := #[.int .i64 0, .int .i64 0]) (t := 40) (vs := [.int .i64 8, .int .i64 (i1 : Int)]) hS86 (by kernel_rfl) rfl rfl fun w18 hS87 => ?_
                    have hS88 : St w0 w18 [Own.blk b1 (.cells #[.int .i64 8, .int .i64 (i1 : Int)] 40 (0, 0)), Own.blk b3 (.cells #[.int .i64 e3.Op, .int .i64 e3.A, .int .i64 e3.B] 29 (0, 0)), Own.blk b2 (.cells #[(.slice Z3 m7.length cz3)] 24 (0, 0)), Own.of (.slice Z3 m7.length cz3) 3 m7] := hS87
                    refine ge_nil fun a hF => hK35 _ _ ?_ a hF
                    have hS89 := hS88.takeN 0
                    obtain rfl := Option.some.inj h
                    exact we_ret fun a hF => hQ _ _ _ (Outs.out nofun (Exits.on ⟨rfl, (post_ret (rs := [.cell 2 40]) (ans := [.val (.int .i64 8), .val (.int .i64 (i1 : Int))]) (vs := [.agg #[.int .i64 8, .int .i64 (i1 : Int)]]) (l := [.loaded ⟨b1, 0, none⟩ (.int .i64 8), .loaded ⟨b1, 1, none⟩ (.int .i64 (i1 : Int))]) rfl (by kernel_rfl) ⟨hS88.cell 0 rfl rfl, hS88.cell 0 rfl rfl, trivial⟩ ⟨rfl, hS89⟩) a hF⟩))
              · rw [if_neg hc14] at h
                cases h
            · rw [if_neg hc13] at h
              refine ge_known (t := 85) (b := q2) (c := false) (by kernel_rfl) (Bool.eq_false_iff.2 hc13) ?_
              refine ge_batch [2, 3, 4, 5, 6, 7, 8, 9, 10] (ans := []) (vs := [(11, .bool false), (93, .bool false), (92, undef), (91, undef), (90, undef), (89, undef), (88, undef), (87, undef), (86, undef)]) (l := []) (by kernel_rfl) trivial ?_
              refine ge_nil fun a hF => hK26 _ _ ?_ a hF
              refine we_seq fun K36 hK36 => ?_
              refine we_seq fun K37 hK37 => ?_
              refine we_region [(0, 0), (1, 0), (2, 0)] rfl ?_
              refine ge_batch [0, 1, 2] (ans := [.val (.int .i64 e3.Op)]) (vs := [(96, .bool (e3.Op != 11)), (95, .int .i64 e3.Op), (94, .pointer (some ⟨b3, 0, none⟩))]) (l := [.loaded ⟨b3, 0, none⟩ (.int .i64 e3.Op)]) (by kernel_rfl) ⟨hS64.cell 0 rfl rfl, trivial⟩ ?_
              refine ge_nil fun a hF => hK37 _ _ ?_ a hF
              by_cases hc19 : e3.Op = 11
              · rw [if_pos hc19] at h
                refine we_known (t := 96) (b := (e3.Op != 11)) (v := false) (by kernel_rfl) (bne_eq_false_iff_eq.2 hc19) ?_
                refine we_false (by kernel_rfl) ?_
                refine we_skip fun a hF => hK36 _ _ ?_ a hF
                refine we_seq fun K38 hK38 => ?_
                refine we_region [(0, 0), (1, 0)] rfl ?_
                refine ge_batch [0, 1] (ans := []) (vs := [(106, .bool true), (105, .bool false)]) (l := []) (by kernel_rfl) trivial ?_
                refine ge_nil fun a hF => hK38 _ _ ?_ a hF
                refine we_true (by kernel_rfl) ?_
                refine we_seq fun K39 hK39 => ?_
                refine we_region [(0, 0), (1, 0), (2, 2)] rfl ?_
                refine ge_batch [0, 1] (ans := []) (vs := [(108, .agg #[.int .i64 8, .int .i64 (i1 : Int)]), (107, .int .i64 (i1 : Int))]) (l := []) (by kernel_rfl) trivial ?_
                have hS90 := hS64.bring 2 rfl
                refine ge_set (b := b1) (j := 0) (cs := #[.int .i64 0, .int .i64 0]) (t := 40) (vs := [.int .i64 8, .int .i64 (i1 : Int)]) hS90 (by kernel_rfl) rfl rfl fun w19 hS91 => ?_
                have hS92 : St w0 w19 [Own.blk b1 (.cells #[.int .i64 8, .int .i64 (i1 : Int)] 40 (0, 0)), Own.blk b3 (.cells #[.int .i64 e3.Op, .int .i64 e3.A, .int .i64 e3.B] 29 (0, 0)), Own.blk b2 (.cells #[v7] 24 (0, 0)), Own.of v7 3 m7] := hS91
                refine ge_nil fun a hF => hK39 _ _ ?_ a hF
                have hS93 := hS92.takeN 0
                obtain rfl := Option.some.inj h
                exact we_ret fun a hF => hQ _ _ _ (Outs.out nofun (Exits.on ⟨rfl, (post_ret (rs := [.cell 2 40]) (ans := [.val (.int .i64 8), .val (.int .i64 (i1 : Int))]) (vs := [.agg #[.int .i64 8, .int .i64 (i1 : Int)]]) (l := [.loaded ⟨b1, 0, none⟩ (.int .i64 8), .loaded ⟨b1, 1, none⟩ (.int .i64 (i1 : Int))]) rfl (by kernel_rfl) ⟨hS92.cell 0 rfl rfl, hS92.cell 0 rfl rfl, trivial⟩ ⟨rfl, hS93⟩) a hF⟩))
              · rw [if_neg hc19] at h
                refine we_known (t := 96) (b := (e3.Op != 11)) (v := true) (by kernel_rfl) (bne_iff_ne.2 hc19) ?_
                refine we_true (by kernel_rfl) ?_
                refine we_region [(0, 0), (1, 0), (2, 0), (3, 0), (4, 0), (5, 0), (6, 2), (7, 0), (8, 0)] rfl ?_
                refine ge_batch [0, 1, 2, 3, 4, 5] (ans := []) (vs := [(102, undef), (101, undef), (100, undef), (99, undef), (98, .bool false), (97, .bool false)]) (l := []) (by kernel_rfl) trivial ?_
                refine ge_off rfl rfl rfl (by kernel_rfl) ?_
                refine ge_batch [7, 8] (ans := []) (vs := [(11, .bool false), (104, .bool false)]) (l := []) (by kernel_rfl) trivial ?_
                refine ge_nil fun a hF => hK36 _ _ ?_ a hF
                refine we_seq fun K40 hK40 => ?_
                refine we_region [(0, 0), (1, 0)] rfl ?_
                refine ge_batch [0, 1] (ans := []) (vs := [(106, .bool true), (105, .bool false)]) (l := []) (by kernel_rfl) trivial ?_
                refine ge_nil fun a hF => hK40 _ _ ?_ a hF
                refine we_true (by kernel_rfl) ?_
                refine we_seq fun K41 hK41 => ?_
                refine we_region [(0, 0), (1, 0), (2, 2)] rfl ?_
                refine ge_batch [0, 1] (ans := []) (vs := [(108, .agg #[.int .i64 8, .int .i64 (i1 : Int)]), (107, .int .i64 (i1 : Int))]) (l := []) (by kernel_rfl) trivial ?_
                have hS94 := hS64.bring 2 rfl
                refine ge_set (b := b1) (j := 0) (cs := #[.int .i64 0, .int .i64 0]) (t := 40) (vs := [.int .i64 8, .int .i64 (i1 : Int)]) hS94 (by kernel_rfl) rfl rfl fun w20 hS95 => ?_
                have hS96 : St w0 w20 [Own.blk b1 (.cells #[.int .i64 8, .int .i64 (i1 : Int)] 40 (0, 0)), Own.blk b3 (.cells #[.int .i64 e3.Op, .int .i64 e3.A, .int .i64 e3.B] 29 (0, 0)), Own.blk b2 (.cells #[v7] 24 (0, 0)), Own.of v7 3 m7] := hS95
                refine ge_nil fun a hF => hK41 _ _ ?_ a hF
                have hS97 := hS96.takeN 0
                obtain rfl := Option.some.inj h
                exact we_ret fun a hF => hQ _ _ _ (Outs.out nofun (Exits.on ⟨rfl, (post_ret (rs := [.cell 2 40]) (ans := [.val (.int .i64 8), .val (.int .i64 (i1 : Int))]) (vs := [.agg #[.int .i64 8, .int .i64 (i1 : Int)]]) (l := [.loaded ⟨b1, 0, none⟩ (.int .i64 8), .loaded ⟨b1, 1, none⟩ (.int .i64 (i1 : Int))]) rfl (by kernel_rfl) ⟨hS96.cell 0 rfl rfl, hS96.cell 0 rfl rfl, trivial⟩ ⟨rfl, hS97⟩) a hF⟩))
          · rw [if_neg hc12] at h
            refine we_known (t := 83) (b := (e3.Op == 14)) (v := false) (by kernel_rfl) (beq_eq_false_iff_ne.2 hc12) ?_
            refine we_false (by kernel_rfl) ?_
            refine we_skip fun a hF => hK26 _ _ ?_ a hF
            refine we_seq fun K42 hK42 => ?_
            refine we_seq fun K43 hK43 => ?_
            refine we_region [(0, 0), (1, 0), (2, 0)] rfl ?_
            refine ge_batch [0, 1, 2] (ans := [.val (.int .i64 e3.Op)]) (vs := [(96, .bool (e3.Op != 11)), (95, .int .i64 e3.Op), (94, .pointer (some ⟨b3, 0, none⟩))]) (l := [.loaded ⟨b3, 0, none⟩ (.int .i64 e3.Op)]) (by kernel_rfl) ⟨hS64.cell 0 rfl rfl, trivial⟩ ?_
            refine ge_nil fun a hF => hK43 _ _ ?_ a hF
            by_cases hc20 : e3.Op = 11
            · rw [if_pos hc20] at h
              refine we_known (t := 96) (b := (e3.Op != 11)) (v := false) (by kernel_rfl) (bne_eq_false_iff_eq.2 hc20) ?_
              refine we_false (by kernel_rfl) ?_
              refine we_skip fun a hF => hK42 _ _ ?_ a hF
              refine we_seq fun K44 hK44 => ?_
              refine we_region [(0, 0), (1, 0)] rfl ?_
              refine ge_batch [0, 1] (ans := []) (vs := [(106, .bool (!q2)), (105, .bool q2)]) (l := []) (by kernel_rfl) trivial ?_
              refine ge_nil fun a hF => hK44 _ _ ?_ a hF
              by_cases hc21 : q2 = true
              · rw [if_pos hc21] at h
                refine we_known (t := 106) (b := !q2) (v := false) (by kernel_rfl) (congrArg (fun z => !z) hc21) ?_
                refine we_false (by kernel_rfl) ?_
                refine we_skip fun a hF => hK15 _ _ ?_ a hF
                refine we_region [(0, 0), (1, 0)] rfl ?_
                refine ge_addn (d := 109) (ty := 3) (x := (.tmp 30)) (y := (.const (.int .i64 1))) (t := 3) (t2 := 3) (k := .i64) (m := i1) (by kernel_rfl) (by kernel_rfl) (by kernel_rfl) (by have h0 := hR0.small; omega) ?_
                refine ge_batch [1] (ans := []) (vs := [(30, .int .i64 ((i1 + 1 : Nat) : Int))]) (l := []) (by kernel_rfl) trivial ?_
                have hS98 := hS64.bring 3 rfl
                have hS99 := hS98.bring 3 rfl
                have hS100 := hS99.bring 3 rfl
                have hS101 := hS100.takeN 3
                obtain rfl := Option.some.inj h
                exact ge_nil fun a hF => hQ _ _ _ (Outs.again ⟨v7, hS101, hF.weaken ⟨by kernel_rfl, by kernel_rfl, by kernel_rfl, by kernel_rfl, by kernel_rfl, by kernel_rfl, by kernel_rfl, trivial⟩⟩)
              · rw [if_neg hc21] at h
                refine we_known (t := 106) (b := !q2) (v := true) (by kernel_rfl) (congrArg (fun z => !z) (Bool.eq_false_iff.2 hc21)) ?_
                refine we_true (by kernel_rfl) ?_
                refine we_seq fun K45 hK45 => ?_
                refine we_region [(0, 0), (1, 0), (2, 2)] rfl ?_
                refine ge_batch [0, 1] (ans := []) (vs := [(108, .agg #[.int .i64 8, .int .i64 (i1 : Int)]), (107, .int .i64 (i1 : Int))]) (l := []) (by kernel_rfl) trivial ?_
                have hS102 := hS64.bring 2 rfl
                refine ge_set (b := b1) (j := 0) (cs := #[.int .i64 0, .int .i64 0]) (t := 40) (vs := [.int .i64 8, .int .i64 (i1 : Int)]) hS102 (by kernel_rfl) rfl rfl fun w21 hS103 => ?_
                have hS104 : St w0 w21 [Own.blk b1 (.cells #[.int .i64 8, .int .i64 (i1 : Int)] 40 (0, 0)), Own.blk b3 (.cells #[.int .i64 e3.Op, .int .i64 e3.A, .int .i64 e3.B] 29 (0, 0)), Own.blk b2 (.cells #[v7] 24 (0, 0)), Own.of v7 3 m7] := hS103
                refine ge_nil fun a hF => hK45 _ _ ?_ a hF
                have hS105 := hS104.takeN 0
                obtain rfl := Option.some.inj h
                exact we_ret fun a hF => hQ _ _ _ (Outs.out nofun (Exits.on ⟨rfl, (post_ret (rs := [.cell 2 40]) (ans := [.val (.int .i64 8), .val (.int .i64 (i1 : Int))]) (vs := [.agg #[.int .i64 8, .int .i64 (i1 : Int)]]) (l := [.loaded ⟨b1, 0, none⟩ (.int .i64 8), .loaded ⟨b1, 1, none⟩ (.int .i64 (i1 : Int))]) rfl (by kernel_rfl) ⟨hS104.cell 0 rfl rfl, hS104.cell 0 rfl rfl, trivial⟩ ⟨rfl, hS105⟩) a hF⟩))
            · rw [if_neg hc20] at h
              refine we_known (t := 96) (b := (e3.Op != 11)) (v := true) (by kernel_rfl) (bne_iff_ne.2 hc20) ?_
              refine we_true (by kernel_rfl) ?_
              refine we_region [(0, 0), (1, 0), (2, 0), (3, 0), (4, 0), (5, 0), (6, 2), (7, 0), (8, 0)] rfl ?_
              refine ge_batch [0, 1] (ans := []) (vs := [(98, .bool q2), (97, .bool q2)]) (l := []) (by kernel_rfl) trivial ?_
              by_cases hc22 : q2 = true
              · rw [if_pos hc22] at h
                refine ge_known (t := 98) (b := q2) (c := true) (by kernel_rfl) hc22 ?_
                refine ge_batch [2, 3] (ans := []) (vs := [(100, .int .i64 (i1 : Int)), (99, .func (.func 106) #[] #[.pointer (some ⟨b2, 0, none⟩)])]) (l := []) (by kernel_rfl) trivial ?_
                refine ge_addn (d := 101) (ty := 3) (x := (.tmp 100)) (y := (.const (.int .i64 1))) (t := 3) (t2 := 3) (k := .i64) (m := i1) (by kernel_rfl) (by kernel_rfl) (by kernel_rfl) (by have h0 := hR0.small; omega) ?_
                refine ge_batch [5] (ans := []) (vs := [(102, .int .i64 (IntKind.i64.wrap (e4 + (IntKind.i64.wrap (((mach_pops.f e3.Op).2) - ((mach_pops.f e3.Op).1))))))]) (l := []) (by kernel_rfl) trivial ?_
                obtain ⟨Z4, cz4, rfl⟩ := hS64.open 3 rfl
                rcases hq7 : mach_heights_1.f ((i1 + 1 : Nat) : Int) (IntKind.i64.wrap (e4 + (IntKind.i64.wrap (((mach_pops.f e3.Op).2) - ((mach_pops.f e3.Op).1))))) m7 with _ | r4
                · rw [hq7] at h; cases h
                rw [hq7] at h
                simp only [] at h
                have hS106 := hS64.bring 3 rfl
                have hS107 := hS106.bring 2 rfl
                have hS109 : St w0 w14 [Own.blk b2 (.cells #[(.slice Z4 m7.length cz4)] 24 (0, 0)), Own.of (.slice Z4 m7.length cz4) 3 m7, Own.all [Own.blk b3 (.cells #[.int .i64 e3.Op, .int .i64 e3.A, .int .i64 e3.B] 29 (0, 0)), Own.blk b1 (.cells #[.int .i64 0, .int .i64 0] 40 (0, 0))]] := hS107.packN 2
                refine ge_call2 (m := 0) (d := some 103) (f := 106) (args := #[.int .i64 ((i1 + 1 : Nat) : Int), .int .i64 (IntKind.i64.wrap (e4 + (IntKind.i64.wrap (((mach_pops.f e3.Op).2) - ((mach_pops.f e3.Op).1))))), .pointer (some ⟨b2, 0, none⟩)]) (by kernel_rfl) (mach_heights_1_ok ((i1 + 1 : Nat) : Int) (IntKind.i64.wrap (e4 + (IntKind.i64.wrap (((mach_pops.f e3.Op).2) - ((mach_pops.f e3.Op).1))))) b2 m7 Z4 cz4 _ _ _ hS109 _ hq7) ?_
                rintro _ w22 ⟨v9, rfl, hS108⟩
                refine ⟨_, rfl, ?_⟩
                have hS110 : St w0 w22 [Own.blk b2 (.cells #[v9] 24 (0, 0)), Own.of v9 3 r4.2, Own.blk b3 (.cells #[.int .i64 e3.Op, .int .i64 e3.A, .int .i64 e3.B] 29 (0, 0)), Own.blk b1 (.cells #[.int .i64 0, .int .i64 0] 40 (0, 0))] := hS108.unpack [Own.blk b2 (.cells #[v9] 24 (0, 0)), Own.of v9 3 r4.2]
                refine ge_batch [7, 8] (ans := []) (vs := [(11, .bool r4.1), (104, .bool r4.1)]) (l := []) (by kernel_rfl) trivial ?_
                refine ge_nil fun a hF => hK42 _ _ ?_ a hF
                refine we_seq fun K46 hK46 => ?_
                refine we_region [(0, 0), (1, 0)] rfl ?_
                refine ge_batch [0, 1] (ans := []) (vs := [(106, .bool (!r4.1)), (105, .bool r4.1)]) (l := []) (by kernel_rfl) trivial ?_
                refine ge_nil fun a hF => hK46 _ _ ?_ a hF
                by_cases hc23 : r4.1 = true
                · rw [if_pos hc23] at h
                  refine we_known (t := 106) (b := !r4.1) (v := false) (by kernel_rfl) (congrArg (fun z => !z) hc23) ?_
                  refine we_false (by kernel_rfl) ?_
                  refine we_skip fun a hF => hK15 _ _ ?_ a hF
                  refine we_region [(0, 0), (1, 0)] rfl ?_
                  refine ge_addn (d := 109) (ty := 3) (x := (.tmp 30)) (y := (.const (.int .i64 1))) (t := 3) (t2 := 3) (k := .i64) (m := i1) (by kernel_rfl) (by kernel_rfl) (by kernel_rfl) (by have h0 := hR0.small; omega) ?_
                  refine ge_batch [1] (ans := []) (vs := [(30, .int .i64 ((i1 + 1 : Nat) : Int))]) (l := []) (by kernel_rfl) trivial ?_
                  have hS111 := hS110.bring 1 rfl
                  have hS112 := hS111.bring 3 rfl
                  have hS113 := hS112.bring 2 rfl
                  have hS114 := hS113.takeN 3
                  obtain rfl := Option.some.inj h
                  exact ge_nil fun a hF => hQ _ _ _ (Outs.again ⟨v9, hS114, hF.weaken ⟨by kernel_rfl, by kernel_rfl, by kernel_rfl, by kernel_rfl, by kernel_rfl, by kernel_rfl, by kernel_rfl, trivial⟩⟩)
                · rw [if_neg hc23] at h
                  refine we_known (t := 106) (b := !r4.1) (v := true) (by kernel_rfl) (congrArg (fun z => !z) (Bool.eq_false_iff.2 hc23)) ?_
                  refine we_true (by kernel_rfl) ?_
                  refine we_seq fun K47 hK47 => ?_
                  refine we_region [(0, 0), (1, 0), (2, 2)] rfl ?_
                  refine ge_batch [0, 1] (ans := []) (vs := [(108, .agg #[.int .i64 8, .int .i64 (i1 : Int)]), (107, .int .i64 (i1 : Int))]) (l := []) (by kernel_rfl) trivial ?_
                  have hS115 := hS110.bring 3 rfl
                  refine ge_set (b := b1) (j := 0) (cs := #[.int .i64 0, .int .i64 0]) (t := 40) (vs := [.int .i64 8, .int .i64 (i1 : Int)]) hS115 (by kernel_rfl) rfl rfl fun w23 hS116 => ?_
                  have hS117 : St w0 w23 [Own.blk b1 (.cells #[.int .i64 8, .int .i64 (i1 : Int)] 40 (0, 0)), Own.blk b2 (.cells #[v9] 24 (0, 0)), Own.of v9 3 r4.2, Own.blk b3 (.cells #[.int .i64 e3.Op, .int .i64 e3.A, .int .i64 e3.B] 29 (0, 0))] := hS116
                  refine ge_nil fun a hF => hK47 _ _ ?_ a hF
                  have hS118 := hS117.takeN 0
                  obtain rfl := Option.some.inj h
                  exact we_ret fun a hF => hQ _ _ _ (Outs.out nofun (Exits.on ⟨rfl, (post_ret (rs := [.cell 2 40]) (ans := [.val (.int .i64 8), .val (.int .i64 (i1 : Int))]) (vs := [.agg #[.int .i64 8, .int .i64 (i1 : Int)]]) (l := [.loaded ⟨b1, 0, none⟩ (.int .i64 8), .loaded ⟨b1, 1, none⟩ (.int .i64 (i1 : Int))]) rfl (by kernel_rfl) ⟨hS117.cell 0 rfl rfl, hS117.cell 0 rfl rfl, trivial⟩ ⟨rfl, hS118⟩) a hF⟩))
              · rw [if_neg hc22] at h
                refine ge_known (t := 98) (b := q2) (c := false) (by kernel_rfl) (Bool.eq_false_iff.2 hc22) ?_
                refine ge_batch [2, 3, 4, 5] (ans := []) (vs := [(102, undef), (101, undef), (100, undef), (99, undef)]) (l := []) (by kernel_rfl) trivial ?_
                refine ge_off rfl rfl rfl (by kernel_rfl) ?_
                refine ge_batch [7, 8] (ans := []) (vs := [(11, .bool false), (104, .bool false)]) (l := []) (by kernel_rfl) trivial ?_
                refine ge_nil fun a hF => hK42 _ _ ?_ a hF
                refine we_seq fun K48 hK48 => ?_
                refine we_region [(0, 0), (1, 0)] rfl ?_
                refine ge_batch [0, 1] (ans := []) (vs := [(106, .bool true), (105, .bool false)]) (l := []) (by kernel_rfl) trivial ?_
                refine ge_nil fun a hF => hK48 _ _ ?_ a hF
                refine we_true (by kernel_rfl) ?_
                refine we_seq fun K49 hK49 => ?_
                refine we_region [(0, 0), (1, 0), (2, 2)] rfl ?_
                refine ge_batch [0, 1] (ans := []) (vs := [(108, .agg #[.int .i64 8, .int .i64 (i1 : Int)]), (107, .int .i64 (i1 : Int))]) (l := []) (by kernel_rfl) trivial ?_
                have hS119 := hS64.bring 2 rfl
                refine ge_set (b := b1) (j := 0) (cs := #[.int .i64 0, .int .i64 0]) (t := 40) (vs := [.int .i64 8, .int .i64 (i1 : Int)]) hS119 (by kernel_rfl) rfl rfl fun w24 hS120 => ?_
                have hS121 : St w0 w24 [Own.blk b1 (.cells #[.int .i64 8, .int .i64 (i1 : Int)] 40 (0, 0)), Own.blk b3 (.cells #[.int .i64 e3.Op, .int .i64 e3.A, .int .i64 e3.B] 29 (0, 0)), Own.blk b2 (.cells #[v7] 24 (0, 0)), Own.of v7 3 m7] := hS120
                refine ge_nil fun a hF => hK49 _ _ ?_ a hF
                have hS122 := hS121.takeN 0
                obtain rfl := Option.some.inj h
                exact we_ret fun a hF => hQ _ _ _ (Outs.out nofun (Exits.on ⟨rfl, (post_ret (rs := [.cell 2 40]) (ans := [.val (.int .i64 8), .val (.int .i64 (i1 : Int))]) (vs := [.agg #[.int .i64 8, .int .i64 (i1 : Int)]]) (l := [.loaded ⟨b1, 0, none⟩ (.int .i64 8), .loaded ⟨b1, 1, none⟩ (.int .i64 (i1 : Int))]) rfl (by kernel_rfl) ⟨hS121.cell 0 rfl rfl, hS121.cell 0 rfl rfl, trivial⟩ ⟨rfl, hS122⟩) a hF⟩))
        · rw [hq5] at h
          simp only [] at h
          refine we_keep (e' := ((0, .slice A0 l0.length c0) :: (2, .pointer (some ⟨b1, 0, none⟩)) :: (3, .pointer (some ⟨b2, 0, none⟩)) :: (5, .func (.func 106) #[] #[.pointer (some ⟨b2, 0, none⟩)]) :: (6, .int .i64 (i1 : Int)) :: (7, .pointer (some ⟨b3, 0, none⟩)) :: (8, .int .i64 (IntKind.i64.wrap (e4 + (IntKind.i64.wrap (((mach_pops.f e3.Op).2) - ((mach_pops.f e3.Op).1)))))) :: (9, .int .i64 ((mach_pops.f e3.Op).1)) :: (10, .int .i64 ((mach_pops.f e3.Op).2)) :: (11, .bool (decide ((IntKind.i64.wrap ((IntKind.i64.wrap (e4 - ((mach_pops.f e3.Op).1))) + ((mach_pops.f e3.Op).2))) ≤ 20))) :: (28, .slice A0 l0.length c0) :: (29, .int .i64 (l0.length : Int)) :: (30, .int .i64 (i1 : Int)) :: (31, .bool true) :: (32, .int .i64 (i1 : Int)) :: (33, .pointer (some ⟨blkOf A0, offOf A0 + i1 * 3, none⟩)) :: (34, .agg #[.int .i64 e3.Op, .int .i64 e3.A, .int .i64 e3.B]) :: (35, (.slice Z2 m4.length cz2)) :: (36, .int .i64 (i1 : Int)) :: (37, .pointer (some ⟨blkOf Z2, offOf Z2 + i1 * 1, none⟩)) :: (38, .int .i64 e4) :: (39, .int .i64 e4) :: (40, .bool false) :: (43, .tuple #[.int .i64 ((mach_pops.f e3.Op).1), .int .i64 ((mach_pops.f e3.Op).2)]) :: (44, .pointer (some ⟨b3, 0, none⟩)) :: (45, .int .i64 e3.Op) :: (46, .tuple #[.int .i64 ((mach_pops.f e3.Op).1), .int .i64 ((mach_pops.f e3.Op).2)]) :: (47, .int .i64 ((mach_pops.f e3.Op).1)) :: (48, .int .i64 ((mach_pops.f e3.Op).2)) :: (49, .int .i64 e4) :: (50, .int .i64 ((mach_pops.f e3.Op).1)) :: (51, .bool (decide (e4 ≥ ((mach_pops.f e3.Op).1)))) :: (52, .bool true) :: (53, .int .i64 e4) :: (54, .int .i64 ((mach_pops.f e3.Op).1)) :: (55, .int .i64 (IntKind.i64.wrap (e4 - ((mach_pops.f e3.Op).1)))) :: (56, .int .i64 ((mach_pops.f e3.Op).2)) :: (57, .int .i64 (IntKind.i64.wrap ((IntKind.i64.wrap (e4 - ((mach_pops.f e3.Op).1))) + ((mach_pops.f e3.Op).2)))) :: (58, .bool (decide ((IntKind.i64.wrap ((IntKind.i64.wrap (e4 - ((mach_pops.f e3.Op).1))) + ((mach_pops.f e3.Op).2))) ≤ 20))) :: (59, .bool (decide ((IntKind.i64.wrap ((IntKind.i64.wrap (e4 - ((mach_pops.f e3.Op).1))) + ((mach_pops.f e3.Op).2))) ≤ 20))) :: (60, .int .i64 e4) :: (61, .int .i64 ((mach_pops.f e3.Op).2)) :: (62, .int .i64 ((mach_pops.f e3.Op).1)) :: (63, .int .i64 (IntKind.i64.wrap (((mach_pops.f e3.Op).2) - ((mach_pops.f e3.Op).1)))) :: (64, .int .i64 (IntKind.i64.wrap (e4 + (IntKind.i64.wrap (((mach_pops.f e3.Op).2) - ((mach_pops.f e3.Op).1)))))) :: [])) ⟨by kernel_rfl, by kernel_rfl, by kernel_rfl, by kernel_rfl, by kernel_rfl, by kernel_rfl, by kernel_rfl, by kernel_rfl, by kernel_rfl, by kernel_rfl, by kernel_rfl, by kernel_rfl, by kernel_rfl, by kernel_rfl, by kernel_rfl, by kernel_rfl, by kernel_rfl, by kernel_rfl, by kernel_rfl, by kernel_rfl, by kernel_rfl, by kernel_rfl, by kernel_rfl, by kernel_rfl, by kernel_rfl, by kernel_rfl, by kernel_rfl, by kernel_rfl, by kernel_rfl, by kernel_rfl, by kernel_rfl, by kernel_rfl, by kernel_rfl, by kernel_rfl, by kernel_rfl, by kernel_rfl, by kernel_rfl, by kernel_rfl, by kernel_rfl, by kernel_rfl, by kernel_rfl, by kernel_rfl, by kernel_rfl, by kernel_rfl, by kernel_rfl, trivial⟩ (mach_heights_p2 K w0 l0 A0 c0 hR0 hL0 b1 hc1 hc2 b2 Z1 cz1 m3 e2 hx4 i1 m4 hc5 e3 hx5 b3 Z2 cz2 e4 hx7 hc6 hc7 _ hq5 _ hS33 _ ?_)
          rintro _ a w1 ⟨_, rfl, hb⟩
          obtain rfl := Option.some.inj h
          exact hQ _ _ _ (Outs.out nofun (Exits.on ⟨rfl, hb⟩))
      · rw [if_neg hc7] at h
        refine ge_known (t := 52) (b := decide (e4 ≥ ((mach_pops.f e3.Op).1))) (c := false) (by kernel_rfl) (decide_eq_false hc7) ?_
        refine ge_batch [4, 5, 6, 7, 8, 9, 10, 11] (ans := []) (vs := [(11, .bool false), (59, .bool false), (58, undef), (57, undef), (56, undef), (55, undef), (54, undef), (53, undef)]) (l := []) (by kernel_rfl) trivial ?_
        refine ge_nil fun a hF => hK22 _ _ ?_ a hF
        refine we_seq fun K50 hK50 => ?_
        refine we_region [(0, 0), (1, 0), (2, 0), (3, 0), (4, 0), (5, 0)] rfl ?_
        refine ge_batch [0, 1, 2, 3, 4, 5] (ans := []) (vs := [(8, .int .i64 (IntKind.i64.wrap (e4 + (IntKind.i64.wrap (((mach_pops.f e3.Op).2) - ((mach_pops.f e3.Op).1)))))), (64, .int .i64 (IntKind.i64.wrap (e4 + (IntKind.i64.wrap (((mach_pops.f e3.Op).2) - ((mach_pops.f e3.Op).1)))))), (63, .int .i64 (IntKind.i64.wrap (((mach_pops.f e3.Op).2) - ((mach_pops.f e3.Op).1)))), (62, .int .i64 ((mach_pops.f e3.Op).1)), (61, .int .i64 ((mach_pops.f e3.Op).2)), (60, .int .i64 e4)]) (l := []) (by kernel_rfl) trivial ?_
        refine ge_nil fun a hF => hK50 _ _ ?_ a hF
        refine we_seq fun K51 hK51 => ?_
        rcases hq8 : mach_heights.p3 m4 e3 with _ | (⟨q4, m9⟩ | rr2)
        · rw [hq8] at h; cases h
        · rw [hq8] at h
          simp only [] at h
          refine we_keep (e' := ((0, .slice A0 l0.length c0) :: (2, .pointer (some ⟨b1, 0, none⟩)) :: (3, .pointer (some ⟨b2, 0, none⟩)) :: (5, .func (.func 106) #[] #[.pointer (some ⟨b2, 0, none⟩)]) :: (6, .int .i64 (i1 : Int)) :: (7, .pointer (some ⟨b3, 0, none⟩)) :: (8, .int .i64 (IntKind.i64.wrap (e4 + (IntKind.i64.wrap (((mach_pops.f e3.Op).2) - ((mach_pops.f e3.Op).1)))))) :: (9, .int .i64 ((mach_pops.f e3.Op).1)) :: (10, .int .i64 ((mach_pops.f e3.Op).2)) :: (11, .bool false) :: (28, .slice A0 l0.length c0) :: (29, .int .i64 (l0.length : Int)) :: (30, .int .i64 (i1 : Int)) :: (31, .bool true) :: (32, .int .i64 (i1 : Int)) :: (33, .pointer (some ⟨blkOf A0, offOf A0 + i1 * 3, none⟩)) :: (34, .agg #[.int .i64 e3.Op, .int .i64 e3.A, .int .i64 e3.B]) :: (35, (.slice Z2 m4.length cz2)) :: (36, .int .i64 (i1 : Int)) :: (37, .pointer (some ⟨blkOf Z2, offOf Z2 + i1 * 1, none⟩)) :: (38, .int .i64 e4) :: (39, .int .i64 e4) :: (40, .bool false) :: (43, .tuple #[.int .i64 ((mach_pops.f e3.Op).1), .int .i64 ((mach_pops.f e3.Op).2)]) :: (44, .pointer (some ⟨b3, 0, none⟩)) :: (45, .int .i64 e3.Op) :: (46, .tuple #[.int .i64 ((mach_pops.f e3.Op).1), .int .i64 ((mach_pops.f e3.Op).2)]) :: (47, .int .i64 ((mach_pops.f e3.Op).1)) :: (48, .int .i64 ((mach_pops.f e3.Op).2)) :: (49, .int .i64 e4) :: (50, .int .i64 ((mach_pops.f e3.Op).1)) :: (51, .bool (decide (e4 ≥ ((mach_pops.f e3.Op).1)))) :: (52, .bool false) :: (53, undef) :: (54, undef) :: (55, undef) :: (56, undef) :: (57, undef) :: (58, undef) :: (59, .bool false) :: (60, .int .i64 e4) :: (61, .int .i64 ((mach_pops.f e3.Op).2)) :: (62, .int .i64 ((mach_pops.f e3.Op).1)) :: (63, .int .i64 (IntKind.i64.wrap (((mach_pops.f e3.Op).2) - ((mach_pops.f e3.Op).1)))) :: (64, .int .i64 (IntKind.i64.wrap (e4 + (IntKind.i64.wrap (((mach_pops.f e3.Op).2) - ((mach_pops.f e3.Op).1)))))) :: [])) ⟨by kernel_rfl, by kernel_rfl, by kernel_rfl, by kernel_rfl, by kernel_rfl, by kernel_rfl, by kernel_rfl, by kernel_rfl, by kernel_rfl, by kernel_rfl, by kernel_rfl, by kernel_rfl, by kernel_rfl, by kernel_rfl, by kernel_rfl, by kernel_rfl, by kernel_rfl, by kernel_rfl, by kernel_rfl, by kernel_rfl, by kernel_rfl, by kernel_rfl, by kernel_rfl, by kernel_rfl, by kernel_rfl, by kernel_rfl, by kernel_rfl, by kernel_rfl, by kernel_rfl, by kernel_rfl, by kernel_rfl, by kernel_rfl, by kernel_rfl, by kernel_rfl, by kernel_rfl, by kernel_rfl, by kernel_rfl, by kernel_rfl, by kernel_rfl, by kernel_rfl, by kernel_rfl, by kernel_rfl, by kernel_rfl, by kernel_rfl, by kernel_rfl, trivial⟩ (mach_heights_p3 K w0 l0 A0 c0 hR0 hL0 b1 hc1 hc2 b2 Z1 cz1 m3 e2 hx4 i1 m4 hc5 e3 hx5 b3 Z2 cz2 e4 hx7 hc6 hc7 _ hq8 _ hS33 _ ?_)
          rintro _ a w25 ⟨rfl, v11, hS135, hF⟩
          replace hS135 : St w0 w25 [Own.blk b3 (.cells #[.int .i64 e3.Op, .int .i64 e3.A, .int .i64 e3.B] 29 (0, 0)), Own.blk b2 (.cells #[v11] 24 (0, 0)), Own.blk b1 (.cells #[.int .i64 0, .int .i64 0] 40 (0, 0)), Own.of v11 3 m9] := hS135
          refine hK51 [(0, .slice A0 l0.length c0), (2, .pointer (some ⟨b1, 0, none⟩)), (3, .pointer (some ⟨b2, 0, none⟩)), (5, .func (.func 106) #[] #[.pointer (some ⟨b2, 0, none⟩)]), (6, .int .i64 (i1 : Int)), (7, .pointer (some ⟨b3, 0, none⟩)), (8, .int .i64 (IntKind.i64.wrap (e4 + (IntKind.i64.wrap (((mach_pops.f e3.Op).2) - ((mach_pops.f e3.Op).1)))))), (11, .bool q4), (28, .slice A0 l0.length c0), (29, .int .i64 (l0.length : Int)), (30, .int .i64 (i1 : Int))] w25 ?_ a hF
          refine we_seq fun K53 hK53 => ?_
          refine we_seq fun K54 hK54 => ?_
          refine we_region [(0, 0), (1, 0), (2, 0)] rfl ?_
          refine ge_batch [0, 1, 2] (ans := [.val (.int .i64 e3.Op)]) (vs := [(83, .bool (e3.Op == 14)), (82, .int .i64 e3.Op), (81, .pointer (some ⟨b3, 0, none⟩))]) (l := [.loaded ⟨b3, 0, none⟩ (.int .i64 e3.Op)]) (by kernel_rfl) ⟨hS135.cell 0 rfl rfl, trivial⟩ ?_
          refine ge_nil fun a hF => hK54 _ _ ?_ a hF
          by_cases hc26 : e3.Op = 14
          · rw [if_pos hc26] at h
            refine we_known (t := 83) (b := (e3.Op == 14)) (v := true) (by kernel_rfl) (beq_iff_eq.2 hc26) ?_
            refine we_true (by kernel_rfl) ?_
            refine we_region [(0, 0), (1, 0), (2, 0), (3, 0), (4, 0), (5, 0), (6, 0), (7, 0), (8, 0), (9, 0), (10, 0)] rfl ?_
            refine ge_batch [0, 1] (ans := []) (vs := [(85, .bool q4), (84, .bool q4)]) (l := []) (by kernel_rfl) trivial ?_
            by_cases hc27 : q4 = true
            · rw [if_pos hc27] at h
              refine ge_known (t := 85) (b := q4) (c := true) (by kernel_rfl) hc27 ?_
              refine ge_batch [2, 3, 4] (ans := [.val (v11), .val (.int .i64 e3.B)]) (vs := [(88, .int .i64 e3.B), (87, .pointer (some ⟨b3, 2, none⟩)), (86, v11)]) (l := [.loaded ⟨b2, 0, none⟩ (v11), .loaded ⟨b3, 2, none⟩ (.int .i64 e3.B)]) (by kernel_rfl) ⟨hS135.cell 1 rfl rfl, hS135.cell 0 rfl rfl, trivial⟩ ?_
              obtain ⟨Z5, cz5, rfl⟩ := hS135.open 3 rfl
              by_cases hc28 : 0 ≤ e3.B
              · rw [if_pos hc28] at h
                rcases hx9 : m9[(e3.B).toNat]? with _ | e6
                · rw [hx9] at h; cases h
                rw [hx9] at h
                simp only [] at h
                refine ge_index (d := 89) (ty := 0) (t := 24) (el := 3) (sz := 1) (m := m9.length) (c := cz5) (x := (.tmp 86)) (y := (.tmp 88)) (A := Z5) (k' := .i64) (j := e3.B) (jn := ((e3.B).toNat)) (b0 := blkOf Z5) (o0 := offOf Z5) (by kernel_rfl) (by kernel_rfl) (by kernel_rfl) (by kernel_rfl) (by kernel_rfl) ((hS135.rdAt 3 rfl).eqSome (pos_of_get hx9)) (Int.toNat_of_nonneg hc28).symm (lt_of_get hx9) ?_
                refine ge_batch [6, 7, 8, 9, 10] (ans := [.val (.int .i64 e6)]) (vs := [(11, .bool (e6 == (IntKind.i64.wrap (e4 + (IntKind.i64.wrap (((mach_pops.f e3.Op).2) - ((mach_pops.f e3.Op).1))))))), (93, .bool (e6 == (IntKind.i64.wrap (e4 + (IntKind.i64.wrap (((mach_pops.f e3.Op).2) - ((mach_pops.f e3.Op).1))))))), (92, .bool (e6 == (IntKind.i64.wrap (e4 + (IntKind.i64.wrap (((mach_pops.f e3.Op).2) - ((mach_pops.f e3.Op).1))))))), (91, .int .i64 (IntKind.i64.wrap (e4 + (IntKind.i64.wrap (((mach_pops.f e3.Op).2) - ((mach_pops.f e3.Op).1)))))), (90, .int .i64 e6)]) (l := [.loaded ⟨blkOf Z5, offOf Z5 + ((e3.B).toNat) * 1, none⟩ (.int .i64 e6)]) (by kernel_rfl) ⟨RdL.cell (j := 0) (hS135.rdAt 3 rfl) hx9 rfl, trivial⟩ ?_
                refine ge_nil fun a hF => hK53 _ _ ?_ a hF
                refine we_seq fun K55 hK55 => ?_
                refine we_seq fun K56 hK56 => ?_
                refine we_region [(0, 0), (1, 0), (2, 0)] rfl ?_
                refine ge_batch [0, 1, 2] (ans := [.val (.int .i64 e3.Op)]) (vs := [(96, .bool (e3.Op != 11)), (95, .int .i64 e3.Op), (94, .pointer (some ⟨b3, 0, none⟩))]) (l := [.loaded ⟨b3, 0, none⟩ (.int .i64 e3.Op)]) (by kernel_rfl) ⟨hS135.cell 0 rfl rfl, trivial⟩ ?_
                refine ge_nil fun a hF => hK56 _ _ ?_ a hF
                by_cases hc29 : e3.Op = 11
                · rw [if_pos hc29] at h
                  refine we_known (t := 96) (b := (e3.Op != 11)) (v := false) (by kernel_rfl) (bne_eq_false_iff_eq.2 hc29) ?_
                  refine we_false (by kernel_rfl) ?_
                  refine we_skip fun a hF => hK55 _ _ ?_ a hF
                  refine we_seq fun K57 hK57 => ?_
                  refine we_region [(0, 0), (1, 0)] rfl ?_
                  refine ge_batch [0, 1] (ans := []) (vs := [(106, .bool (!(e6 == (IntKind.i64.wrap (e4 + (IntKind.i64.wrap (((mach_pops.f e3.Op).2) - ((mach_pops.f e3.Op).1)))))))), (105, .bool (e6 == (IntKind.i64.wrap (e4 + (IntKind.i64.wrap (((mach_pops.f e3.Op).2) - ((mach_pops.f e3.Op).1)))))))]) (l := []) (by kernel_rfl) trivial ?_
                  refine ge_nil fun a hF => hK57 _ _ ?_ a hF
                  by_cases hc30 : e6 = (IntKind.i64.wrap (e4 + (IntKind.i64.wrap (((mach_pops.f e3.Op).2) - ((mach_pops.f e3.Op).1)))))
                  · rw [if_pos hc30] at h
                    refine we_known (t := 106) (b := !(e6 == (IntKind.i64.wrap (e4 + (IntKind.i64.wrap (((mach_pops.f e3.Op).2) - ((mach_pops.f e3.Op).1))))))) (v := false) (by kernel_rfl) (congrArg (fun z => !z) (beq_iff_eq.2 hc30)) ?_
                    refine we_false (by kernel_rfl) ?_
                    refine we_skip fun a hF => hK15 _ _ ?_ a hF
                    refine we_region [(0, 0), (1, 0)] rfl ?_
                    refine ge_addn (d := 109) (ty := 3) (x := (.tmp 30)) (y := (.const (.int .i64 1))) (t := 3) (t2 := 3) (k := .i64) (m := i1) (by kernel_rfl) (by kernel_rfl) (by kernel_rfl) (by have h0 := hR0.small; omega) ?_
                    refine ge_batch [1] (ans := []) (vs := [(30, .int .i64 ((i1 + 1 : Nat) : Int))]) (l := []) (by kernel_rfl) trivial ?_
                    have hS136 := hS135.bring 3 rfl
                    have hS137 := hS136.bring 3 rfl
                    have hS138 := hS137.bring 3 rfl
                    have hS139 := hS138.takeN 3
                    obtain rfl := Option.some.inj h
                    exact ge_nil fun a hF => hQ _ _ _ (Outs.again ⟨(.slice Z5 m9.length cz5), hS139, hF.weaken ⟨by kernel_rfl, by kernel_rfl, by kernel_rfl, by kernel_rfl, by kernel_rfl, by kernel_rfl, by kernel_rfl, trivial⟩⟩)
                  · rw [if_neg hc30] at h
                    refine we_known (t := 106) (b := !(e6 == (IntKind.i64.wrap (e4 + (IntKind.i64.wrap (((mach_pops.f e3.Op).2) - ((mach_pops.f e3.Op).1))))))) (v := true) (by kernel_rfl) (congrArg (fun z => !z) (beq_eq_false_iff_ne.2 hc30)) ?_
                    refine we_true (by kernel_rfl) ?_
                    refine we_seq fun K58 hK58 => ?_
                    refine we_region [(0, 0), (1, 0), (2, 2)] rfl ?_
                    refine ge_batch [0, 1] (ans := []) (vs := [(108, .agg #[.int .i64 8, .int .i64 (i1 : Int)]), (107, .int .i64 (i1 : Int))]) (l := []) (by kernel_rfl) trivial ?_
                    have hS140 := hS135.bring 2 rfl
                    refine ge_set (b := b1) (j := 0) (cs := #[.int .i64 0, .int .i64 0]) (t := 40) (vs := [.int .i64 8, .int .i64 (i1 : Int)]) hS140 (by kernel_rfl) rfl rfl fun w26 hS141 => ?_
                    have hS142 : St w0 w26 [Own.blk b1 (.cells #[.int .i64 8, .int .i64 (i1 : Int)] 40 (0, 0)), Own.blk b3 (.cells #[.int .i64 e3.Op, .int .i64 e3.A, .int .i64 e3.B] 29 (0, 0)), Own.blk b2 (.cells #[(.slice Z5 m9.length cz5)] 24 (0, 0)), Own.of (.slice Z5 m9.length cz5) 3 m9] := hS141
                    refine ge_nil fun a hF => hK58 _ _ ?_ a hF
                    have hS143 := hS142.takeN 0
                    obtain rfl := Option.some.inj h
                    exact we_ret fun a hF => hQ _ _ _ (Outs.out nofun (Exits.on ⟨rfl, (post_ret (rs := [.cell 2 40]) (ans := [.val (.int .i64 8), .val (.int .i64 (i1 : Int))]) (vs := [.agg #[.int .i64 8, .int .i64 (i1 : Int)]]) (l := [.loaded ⟨b1, 0, none⟩ (.int .i64 8), .loaded ⟨b1, 1, none⟩ (.int .i64 (i1 : Int))]) rfl (by kernel_rfl) ⟨hS142.cell 0 rfl rfl, hS142.cell 0 rfl rfl, trivial⟩ ⟨rfl, hS143⟩) a hF⟩))
                · rw [if_neg hc29] at h
                  refine we_known (t := 96) (b := (e3.Op != 11)) (v := true) (by kernel_rfl) (bne_iff_ne.2 hc29) ?_
                  refine we_true (by kernel_rfl) ?_
                  refine we_region [(0, 0), (1, 0), (2, 0), (3, 0), (4, 0), (5, 0), (6, 2), (7, 0), (8, 0)] rfl ?_
                  refine ge_batch [0, 1] (ans := []) (vs := [(98, .bool (e6 == (IntKind.i64.wrap (e4 + (IntKind.i64.wrap (((mach_pops.f e3.Op).2) - ((mach_pops.f e3.Op).1))))))), (97, .bool (e6 == (IntKind.i64.wrap (e4 + (IntKind.i64.wrap (((mach_pops.f e3.Op).2) - ((mach_pops.f e3.Op).1)))))))]) (l := []) (by kernel_rfl) trivial ?_
                  by_cases hc31 : e6 = (IntKind.i64.wrap (e4 + (IntKind.i64.wrap (((mach_pops.f e3.Op).2) - ((mach_pops.f e3.Op).1)))))
                  · rw [if_pos hc31] at h
                    refine ge_known (t := 98) (b := (e6 == (IntKind.i64.wrap (e4 + (IntKind.i64.wrap (((mach_pops.f e3.Op).2) - ((mach_pops.f e3.Op).1))))))) (c := true) (by kernel_rfl) (beq_iff_eq.2 hc31) ?_
                    refine ge_batch [2, 3] (ans := []) (vs := [(100, .int .i64 (i1 : Int)), (99, .func (.func 106) #[] #[.pointer (some ⟨b2, 0, none⟩)])]) (l := []) (by kernel_rfl) trivial ?_
                    refine ge_addn (d := 101) (ty := 3) (x := (.tmp 100)) (y := (.const (.int .i64 1))) (t := 3) (t2 := 3) (k := .i64) (m := i1) (by kernel_rfl) (by kernel_rfl) (by kernel_rfl) (by have h0 := hR0.small; omega) ?_
                    refine ge_batch [5] (ans := []) (vs := [(102, .int .i64 (IntKind.i64.wrap (e4 + (IntKind.i64.wrap (((mach_pops.f e3.Op).2) - ((mach_pops.f e3.Op).1))))))]) (l := []) (by kernel_rfl) trivial ?_
                    rcases hq9 : mach_heights_1.f ((i1 + 1 : Nat) : Int) (IntKind.i64.wrap (e4 + (IntKind.i64.wrap (((mach_pops.f e3.Op).2) - ((mach_pops.f e3.Op).1))))) m9 with _ | r5
                    · rw [hq9] at h; cases h
                    rw [hq9] at h
                    simp only [] at h
                    have hS144 := hS135.bring 3 rfl
                    have hS145 := hS144.bring 2 rfl
                    have hS147 : St w0 w25 [Own.blk b2 (.cells #[(.slice Z5 m9.length cz5)] 24 (0, 0)), Own.of (.slice Z5 m9.length cz5) 3 m9, Own.all [Own.blk b3 (.cells #[.int .i64 e3.Op, .int .i64 e3.A, .int .i64 e3.B] 29 (0, 0)), Own.blk b1 (.cells #[.int .i64 0, .int .i64 0] 40 (0, 0))]] := hS145.packN 2
                    refine ge_call2 (m := 0) (d := some 103) (f := 106) (args := #[.int .i64 ((i1 + 1 : Nat) : Int), .int .i64 (IntKind.i64.wrap (e4 + (IntKind.i64.wrap (((mach_pops.f e3.Op).2) - ((mach_pops.f e3.Op).1))))), .pointer (some ⟨b2, 0, none⟩)]) (by kernel_rfl) (mach_heights_1_ok ((i1 + 1 : Nat) : Int) (IntKind.i64.wrap (e4 + (IntKind.i64.wrap (((mach_pops.f e3.Op).2) - ((mach_pops.f e3.Op).1))))) b2 m9 Z5 cz5 _ _ _ hS147 _ hq9) ?_
                    rintro _ w27 ⟨v12, rfl, hS146⟩
                    refine ⟨_, rfl, ?_⟩
                    have hS148 : St w0 w27 [Own.blk b2 (.cells #[v12] 24 (0, 0)), Own.of v12 3 r5.2, Own.blk b3 (.cells #[.int .i64 e3.Op, .int .i64 e3.A, .int .i64 e3.B] 29 (0, 0)), Own.blk b1 (.cells #[.int .i64 0, .int .i64 0] 40 (0, 0))] := hS146.unpack [Own.blk b2 (.cells #[v12] 24 (0, 0)), Own.of v12 3 r5.2]
                    refine ge_batch [7, 8] (ans := []) (vs := [(11, .bool r5.1), (104, .bool r5.1)]) (l := []) (by kernel_rfl) trivial ?_
                    refine ge_nil fun a hF => hK55 _ _ ?_ a hF
                    refine we_seq fun K59 hK59 => ?_
                    refine we_region [(0, 0), (1, 0)] rfl ?_
                    refine ge_batch [0, 1] (ans := []) (vs := [(106, .bool (!r5.1)), (105, .bool r5.1)]) (l := []) (by kernel_rfl) trivial ?_
                    refine ge_nil fun a hF => hK59 _ _ ?_ a hF
                    by_cases hc32 : r5.1 = true
                    · rw [if_pos hc32] at h
                      refine we_known (t := 106) (b := !r5.1) (v := false) (by kernel_rfl) (congrArg (fun z => !z) hc32) ?_
                      refine we_false (by kernel_rfl) ?_
                      refine we_skip fun a hF => hK15 _ _ ?_ a hF
                      refine we_region [(0, 0), (1, 0)] rfl ?_
                      refine ge_addn (d := 109) (ty := 3) (x := (.tmp 30)) (y := (.const (.int .i64 1))) (t := 3) (t2 := 3) (k := .i64) (m := i1) (by kernel_rfl) (by kernel_rfl) (by kernel_rfl) (by have h0 := hR0.small; omega) ?_
                      refine ge_batch [1] (ans := []) (vs := [(30, .int .i64 ((i1 + 1 : Nat) : Int))]) (l := []) (by kernel_rfl) trivial ?_
                      have hS149 := hS148.bring 1 rfl
                      have hS150 := hS149.bring 3 rfl
                      have hS151 := hS150.bring 2 rfl
                      have hS152 := hS151.takeN 3
                      obtain rfl := Option.some.inj h
                      exact ge_nil fun a hF => hQ _ _ _ (Outs.again ⟨v12, hS152, hF.weaken ⟨by kernel_rfl, by kernel_rfl, by kernel_rfl, by kernel_rfl, by kernel_rfl, by kernel_rfl, by kernel_rfl, trivial⟩⟩)
                    · rw [if_neg hc32] at h
                      refine we_known (t := 106) (b := !r5.1) (v := true) (by kernel_rfl) (congrArg (fun z => !z) (Bool.eq_false_iff.2 hc32)) ?_
                      refine we_true (by kernel_rfl) ?_
                      refine we_seq fun K60 hK60 => ?_
                      refine we_region [(0, 0), (1, 0), (2, 2)] rfl ?_
                      refine ge_batch [0, 1] (ans := []) (vs := [(108, .agg #[.int .i64 8, .int .i64 (i1 : Int)]), (107, .int .i64 (i1 : Int))]) (l := []) (by kernel_rfl) trivial ?_
                      have hS153 := hS148.bring 3 rfl
                      refine ge_set (b := b1) (j := 0) (cs := #[.int .i64 0, .int .i64 0]) (t := 40) (vs := [.int .i64 8, .int .i64 (i1 : Int)]) hS153 (by kernel_rfl) rfl rfl fun w28 hS154 => ?_
                      have hS155 : St w0 w28 [Own.blk b1 (.cells #[.int .i64 8, .int .i64 (i1 : Int)] 40 (0, 0)), Own.blk b2 (.cells #[v12] 24 (0, 0)), Own.of v12 3 r5.2, Own.blk b3 (.cells #[.int .i64 e3.Op, .int .i64 e3.A, .int .i64 e3.B] 29 (0, 0))] := hS154
                      refine ge_nil fun a hF => hK60 _ _ ?_ a hF
                      have hS156 := hS155.takeN 0
                      obtain rfl := Option.some.inj h
                      exact we_ret fun a hF => hQ _ _ _ (Outs.out nofun (Exits.on ⟨rfl, (post_ret (rs := [.cell 2 40]) (ans := [.val (.int .i64 8), .val (.int .i64 (i1 : Int))]) (vs := [.agg #[.int .i64 8, .int .i64 (i1 : Int)]]) (l := [.loaded ⟨b1, 0, none⟩ (.int .i64 8), .loaded ⟨b1, 1, none⟩ (.int .i64 (i1 : Int))]) rfl (by kernel_rfl) ⟨hS155.cell 0 rfl rfl, hS155.cell 0 rfl rfl, trivial⟩ ⟨rfl, hS156⟩) a hF⟩))
                  · rw [if_neg hc31] at h
                    refine ge_known (t := 98) (b := (e6 == (IntKind.i64.wrap (e4 + (IntKind.i64.wrap (((mach_pops.f e3.Op).2) - ((mach_pops.f e3.Op).1))))))) (c := false) (by kernel_rfl) (beq_eq_false_iff_ne.2 hc31) ?_
                    refine ge_batch [2, 3, 4, 5] (ans := []) (vs := [(102, undef), (101, undef), (100, undef), (99, undef)]) (l := []) (by kernel_rfl) trivial ?_
                    refine ge_off rfl rfl rfl (by kernel_rfl) ?_
                    refine ge_batch [7, 8] (ans := []) (vs := [(11, .bool false), (104, .bool false)]) (l := []) (by kernel_rfl) trivial ?_
                    refine ge_nil fun a hF => hK55 _ _ ?_ a hF
                    refine we_seq fun K61 hK61 => ?_
                    refine we_region [(0, 0), (1, 0)] rfl ?_
                    refine ge_batch [0, 1] (ans := []) (vs := [(106, .bool true), (105, .bool false)]) (l := []) (by kernel_rfl) trivial ?_
                    refine ge_nil fun a hF => hK61 _ _ ?_ a hF
                    refine we_true (by kernel_rfl) ?_
                    refine we_seq fun K62 hK62 => ?_
                    refine we_region [(0, 0), (1, 0), (2, 2)] rfl ?_
                    refine ge_batch [0, 1] (ans := []) (vs := [(108, .agg #[.int .i64 8, .int .i64 (i1 : Int)]), (107, .int .i64 (i1 : Int))]) (l := []) (by kernel_rfl) trivial ?_
                    have hS157 := hS135.bring 2 rfl
                    refine ge_set (b := b1) (j := 0) (cs := #[.int .i64 0, .int .i64 0]) (t := 40) (vs := [.int .i64 8, .int .i64 (i1 : Int)]) hS157 (by kernel_rfl) rfl rfl fun w29 hS158 => ?_
                    have hS159 : St w0 w29 [Own.blk b1 (.cells #[.int .i64 8, .int .i64 (i1 : Int)] 40 (0, 0)), Own.blk b3 (.cells #[.int .i64 e3.Op, .int .i64 e3.A, .int .i64 e3.B] 29 (0, 0)), Own.blk b2 (.cells #[(.slice Z5 m9.length cz5)] 24 (0, 0)), Own.of (.slice Z5 m9.length cz5) 3 m9] := hS158
                    refine ge_nil fun a hF => hK62 _ _ ?_ a hF
                    have hS160 := hS159.takeN 0
                    obtain rfl := Option.some.inj h
                    exact we_ret fun a hF => hQ _ _ _ (Outs.out nofun (Exits.on ⟨rfl, (post_ret (rs := [.cell 2 40]) (ans := [.val (.int .i64 8), .val (.int .i64 (i1 : Int))]) (vs := [.agg #[.int .i64 8, .int .i64 (i1 : Int)]]) (l := [.loaded ⟨b1, 0, none⟩ (.int .i64 8), .loaded ⟨b1, 1, none⟩ (.int .i64 (i1 : Int))]) rfl (by kernel_rfl) ⟨hS159.cell 0 rfl rfl, hS159.cell 0 rfl rfl, trivial⟩ ⟨rfl, hS160⟩) a hF⟩))
              · rw [if_neg hc28] at h
                cases h
            · rw [if_neg hc27] at h
              refine ge_known (t := 85) (b := q4) (c := false) (by kernel_rfl) (Bool.eq_false_iff.2 hc27) ?_
              refine ge_batch [2, 3, 4, 5, 6, 7, 8, 9, 10] (ans := []) (vs := [(11, .bool false), (93, .bool false), (92, undef), (91, undef), (90, undef), (89, undef), (88, undef), (87, undef), (86, undef)]) (l := []) (by kernel_rfl) trivial ?_
              refine ge_nil fun a hF => hK53 _ _ ?_ a hF
              refine we_seq fun K63 hK63 => ?_
              refine we_seq fun K64 hK64 => ?_
              refine we_region [(0, 0), (1, 0), (2, 0)] rfl ?_
              refine ge_batch [0, 1, 2] (ans := [.val (.int .i64 e3.Op)]) (vs := [(96, .bool (e3.Op != 11)), (95, .int .i64 e3.Op), (94, .pointer (some ⟨b3, 0, none⟩))]) (l := [.loaded ⟨b3, 0, none⟩ (.int .i64 e3.Op)]) (by kernel_rfl) ⟨hS135.cell 0 rfl rfl, trivial⟩ ?_
              refine ge_nil fun a hF => hK64 _ _ ?_ a hF
              by_cases hc33 : e3.Op = 11
              · rw [if_pos hc33] at h
                refine we_known (t := 96) (b := (e3.Op != 11)) (v := false) (by kernel_rfl) (bne_eq_false_iff_eq.2 hc33) ?_
                refine we_false (by kernel_rfl) ?_
                refine we_skip fun a hF => hK63 _ _ ?_ a hF
                refine we_seq fun K65 hK65 => ?_
                refine we_region [(0, 0), (1, 0)] rfl ?_
                refine ge_batch [0, 1] (ans := []) (vs := [(106, .bool true), (105, .bool false)]) (l := []) (by kernel_rfl) trivial ?_
                refine ge_nil fun a hF => hK65 _ _ ?_ a hF
                refine we_true (by kernel_rfl) ?_
                refine we_seq fun K66 hK66 => ?_
                refine we_region [(0, 0), (1, 0), (2, 2)] rfl ?_
                refine ge_batch [0, 1] (ans := []) (vs := [(108, .agg #[.int .i64 8, .int .i64 (i1 : Int)]), (107, .int .i64 (i1 : Int))]) (l := []) (by kernel_rfl) trivial ?_
                have hS161 := hS135.bring 2 rfl
                refine ge_set (b := b1) (j := 0) (cs := #[.int .i64 0, .int .i64 0]) (t := 40) (vs := [.int .i64 8, .int .i64 (i1 : Int)]) hS161 (by kernel_rfl) rfl rfl fun w30 hS162 => ?_
                have hS163 : St w0 w30 [Own.blk b1 (.cells #[.int .i64 8, .int .i64 (i1 : Int)] 40 (0, 0)), Own.blk b3 (.cells #[.int .i64 e3.Op, .int .i64 e3.A, .int .i64 e3.B] 29 (0, 0)), Own.blk b2 (.cells #[v11] 24 (0, 0)), Own.of v11 3 m9] := hS162
                refine ge_nil fun a hF => hK66 _ _ ?_ a hF
                have hS164 := hS163.takeN 0
                obtain rfl := Option.some.inj h
                exact we_ret fun a hF => hQ _ _ _ (Outs.out nofun (Exits.on ⟨rfl, (post_ret (rs := [.cell 2 40]) (ans := [.val (.int .i64 8), .val (.int .i64 (i1 : Int))]) (vs := [.agg #[.int .i64 8, .int .i64 (i1 : Int)]]) (l := [.loaded ⟨b1, 0, none⟩ (.int .i64 8), .loaded ⟨b1, 1, none⟩ (.int .i64 (i1 : Int))]) rfl (by kernel_rfl) ⟨hS163.cell 0 rfl rfl, hS163.cell 0 rfl rfl, trivial⟩ ⟨rfl, hS164⟩) a hF⟩))
              · rw [if_neg hc33] at h
                refine we_known (t := 96) (b := (e3.Op != 11)) (v := true) (by kernel_rfl) (bne_iff_ne.2 hc33) ?_
                refine we_true (by kernel_rfl) ?_
                refine we_region [(0, 0), (1, 0), (2, 0), (3, 0), (4, 0), (5, 0), (6, 2), (7, 0), (8, 0)] rfl ?_
                refine ge_batch [0, 1, 2, 3, 4, 5] (ans := []) (vs := [(102, undef), (101, undef), (100, undef), (99, undef), (98, .bool false), (97, .bool false)]) (l := []) (by kernel_rfl) trivial ?_
                refine ge_off rfl rfl rfl (by kernel_rfl) ?_
                refine ge_batch [7, 8] (ans := []) (vs := [(11, .bool false), (104, .bool false)]) (l := []) (by kernel_rfl) trivial ?_
                refine ge_nil fun a hF => hK63 _ _ ?_ a hF
                refine we_seq fun K67 hK67 => ?_
                refine we_region [(0, 0), (1, 0)] rfl ?_
                refine ge_batch [0, 1] (ans := []) (vs := [(106, .bool true), (105, .bool false)]) (l := []) (by kernel_rfl) trivial ?_
                refine ge_nil fun a hF => hK67 _ _ ?_ a hF
                refine we_true (by kernel_rfl) ?_
                refine we_seq fun K68 hK68 => ?_
                refine we_region [(0, 0), (1, 0), (2, 2)] rfl ?_
                refine ge_batch [0, 1] (ans := []) (vs := [(108, .agg #[.int .i64 8, .int .i64 (i1 : Int)]), (107, .int .i64 (i1 : Int))]) (l := []) (by kernel_rfl) trivial ?_
                have hS165 := hS135.bring 2 rfl
                refine ge_set (b := b1) (j := 0) (cs := #[.int .i64 0, .int .i64 0]) (t := 40) (vs := [.int .i64 8, .int .i64 (i1 : Int)]) hS165 (by kernel_rfl) rfl rfl fun w31 hS166 => ?_
                have hS167 : St w0 w31 [Own.blk b1 (.cells #[.int .i64 8, .int .i64 (i1 : Int)] 40 (0, 0)), Own.blk b3 (.cells #[.int .i64 e3.Op, .int .i64 e3.A, .int .i64 e3.B] 29 (0, 0)), Own.blk b2 (.cells #[v11] 24 (0, 0)), Own.of v11 3 m9] := hS166
                refine ge_nil fun a hF => hK68 _ _ ?_ a hF
                have hS168 := hS167.takeN 0
                obtain rfl := Option.some.inj h
                exact we_ret fun a hF => hQ _ _ _ (Outs.out nofun (Exits.on ⟨rfl, (post_ret (rs := [.cell 2 40]) (ans := [.val (.int .i64 8), .val (.int .i64 (i1 : Int))]) (vs := [.agg #[.int .i64 8, .int .i64 (i1 : Int)]]) (l := [.loaded ⟨b1, 0, none⟩ (.int .i64 8), .loaded ⟨b1, 1, none⟩ (.int .i64 (i1 : Int))]) rfl (by kernel_rfl) ⟨hS167.cell 0 rfl rfl, hS167.cell 0 rfl rfl, trivial⟩ ⟨rfl, hS168⟩) a hF⟩))
          · rw [if_neg hc26] at h
            refine we_known (t := 83) (b := (e3.Op == 14)) (v := false) (by kernel_rfl) (beq_eq_false_iff_ne.2 hc26) ?_
            refine we_false (by kernel_rfl) ?_
            refine we_skip fun a hF => hK53 _ _ ?_ a hF
            refine we_seq fun K69 hK69 => ?_
            refine we_seq fun K70 hK70 => ?_
            refine we_region [(0, 0), (1, 0), (2, 0)] rfl ?_
            refine ge_batch [0, 1, 2] (ans := [.val (.int .i64 e3.Op)]) (vs := [(96, .bool (e3.Op != 11)), (95, .int .i64 e3.Op), (94, .pointer (some ⟨b3, 0, none⟩))]) (l := [.loaded ⟨b3, 0, none⟩ (.int .i64 e3.Op)]) (by kernel_rfl) ⟨hS135.cell 0 rfl rfl, trivial⟩ ?_
            refine ge_nil fun a hF => hK70 _ _ ?_ a hF
            by_cases hc34 : e3.Op = 11
            · rw [if_pos hc34] at h
              refine we_known (t := 96) (b := (e3.Op != 11)) (v := false) (by kernel_rfl) (bne_eq_false_iff_eq.2 hc34) ?_
              refine we_false (by kernel_rfl) ?_
              refine we_skip fun a hF => hK69 _ _ ?_ a hF
              refine we_seq fun K71 hK71 => ?_
              refine we_region [(0, 0), (1, 0)] rfl ?_
              refine ge_batch [0, 1] (ans := []) (vs := [(106, .bool (!q4)), (105, .bool q4)]) (l := []) (by kernel_rfl) trivial ?_
              refine ge_nil fun a hF => hK71 _ _ ?_ a hF
              by_cases hc35 : q4 = true
              · rw [if_pos hc35] at h
                refine we_known (t := 106) (b := !q4) (v := false) (by kernel_rfl) (congrArg (fun z => !z) hc35) ?_
                refine we_false (by kernel_rfl) ?_
                refine we_skip fun a hF => hK15 _ _ ?_ a hF
                refine we_region [(0, 0), (1, 0)] rfl ?_
                refine ge_addn (d := 109) (ty := 3) (x := (.tmp 30)) (y := (.const (.int .i64 1))) (t := 3) (t2 := 3) (k := .i64) (m := i1) (by kernel_rfl) (by kernel_rfl) (by kernel_rfl) (by have h0 := hR0.small; omega) ?_
                refine ge_batch [1] (ans := []) (vs := [(30, .int .i64 ((i1 + 1 : Nat) : Int))]) (l := []) (by kernel_rfl) trivial ?_
                have hS169 := hS135.bring 3 rfl
                have hS170 := hS169.bring 3 rfl
                have hS171 := hS170.bring 3 rfl
                have hS172 := hS171.takeN 3
                obtain rfl := Option.some.inj h
                exact ge_nil fun a hF => hQ _ _ _ (Outs.again ⟨v11, hS172, hF.weaken ⟨by kernel_rfl, by kernel_rfl, by kernel_rfl, by kernel_rfl, by kernel_rfl, by kernel_rfl, by kernel_rfl, trivial⟩⟩)
              · rw [if_neg hc35] at h
                refine we_known (t := 106) (b := !q4) (v := true) (by kernel_rfl) (congrArg (fun z => !z) (Bool.eq_false_iff.2 hc35)) ?_
                refine we_true (by kernel_rfl) ?_
                refine we_seq fun K72 hK72 => ?_
                refine we_region [(0, 0), (1, 0), (2, 2)] rfl ?_
                refine ge_batch [0, 1] (ans := []) (vs := [(108, .agg #[.int .i64 8, .int .i64 (i1 : Int)]), (107, .int .i64 (i1 : Int))]) (l := []) (by kernel_rfl) trivial ?_
                have hS173 := hS135.bring 2 rfl
                refine ge_set (b := b1) (j := 0) (cs := #[.int .i64 0, .int .i64 0]) (t := 40) (vs := [.int .i64 8, .int .i64 (i1 : Int)]) hS173 (by kernel_rfl) rfl rfl fun w32 hS174 => ?_
                have hS175 : St w0 w32 [Own.blk b1 (.cells #[.int .i64 8, .int .i64 (i1 : Int)] 40 (0, 0)), Own.blk b3 (.cells #[.int .i64 e3.Op, .int .i64 e3.A, .int .i64 e3.B] 29 (0, 0)), Own.blk b2 (.cells #[v11] 24 (0, 0)), Own.of v11 3 m9] := hS174
                refine ge_nil fun a hF => hK72 _ _ ?_ a hF
                have hS176 := hS175.takeN 0
                obtain rfl := Option.some.inj h
                exact we_ret fun a hF => hQ _ _ _ (Outs.out nofun (Exits.on ⟨rfl, (post_ret (rs := [.cell 2 40]) (ans := [.val (.int .i64 8), .val (.int .i64 (i1 : Int))]) (vs := [.agg #[.int .i64 8, .int .i64 (i1 : Int)]]) (l := [.loaded ⟨b1, 0, none⟩ (.int .i64 8), .loaded ⟨b1, 1, none⟩ (.int .i64 (i1 : Int))]) rfl (by kernel_rfl) ⟨hS175.cell 0 rfl rfl, hS175.cell 0 rfl rfl, trivial⟩ ⟨rfl, hS176⟩) a hF⟩))
            · rw [if_neg hc34] at h
              refine we_known (t := 96) (b := (e3.Op != 11)) (v := true) (by kernel_rfl) (bne_iff_ne.2 hc34) ?_
              refine we_true (by kernel_rfl) ?_
              refine we_region [(0, 0), (1, 0), (2, 0), (3, 0), (4, 0), (5, 0), (6, 2), (7, 0), (8, 0)] rfl ?_
              refine ge_batch [0, 1] (ans := []) (vs := [(98, .bool q4), (97, .bool q4)]) (l := []) (by kernel_rfl) trivial ?_
              by_cases hc36 : q4 = true
              · rw [if_pos hc36] at h
                refine ge_known (t := 98) (b := q4) (c := true) (by kernel_rfl) hc36 ?_
                refine ge_batch [2, 3] (ans := []) (vs := [(100, .int .i64 (i1 : Int)), (99, .func (.func 106) #[] #[.pointer (some ⟨b2, 0, none⟩)])]) (l := []) (by kernel_rfl) trivial ?_
                refine ge_addn (d := 101) (ty := 3) (x := (.tmp 100)) (y := (.const (.int .i64 1))) (t := 3) (t2 := 3) (k := .i64) (m := i1) (by kernel_rfl) (by kernel_rfl) (by kernel_rfl) (by have h0 := hR0.small; omega) ?_
                refine ge_batch [5] (ans := []) (vs := [(102, .int .i64 (IntKind.i64.wrap (e4 + (IntKind.i64.wrap (((mach_pops.f e3.Op).2) - ((mach_pops.f e3.Op).1))))))]) (l := []) (by kernel_rfl) trivial ?_
                obtain ⟨Z6, cz6, rfl⟩ := hS135.open 3 rfl
                rcases hq10 : mach_heights_1.f ((i1 + 1 : Nat) : Int) (IntKind.i64.wrap (e4 + (IntKind.i64.wrap (((mach_pops.f e3.Op).2) - ((mach_pops.f e3.Op).1))))) m9 with _ | r6
                · rw [hq10] at h; cases h
                rw [hq10] at h
                simp only [] at h
                have hS177 := hS135.bring 3 rfl
                have hS178 := hS177.bring 2 rfl
                have hS180 : St w0 w25 [Own.blk b2 (.cells #[(.slice Z6 m9.length cz6)] 24 (0, 0)), Own.of (.slice Z6 m9.length cz6) 3 m9, Own.all [Own.blk b3 (.cells #[.int .i64 e3.Op, .int .i64 e3.A, .int .i64 e3.B] 29 (0, 0)), Own.blk b1 (.cells #[.int .i64 0, .int .i64 0] 40 (0, 0))]] := hS178.packN 2
                refine ge_call2 (m := 0) (d := some 103) (f := 106) (args := #[.int .i64 ((i1 + 1 : Nat) : Int), .int .i64 (IntKind.i64.wrap (e4 + (IntKind.i64.wrap (((mach_pops.f e3.Op).2) - ((mach_pops.f e3.Op).1))))), .pointer (some ⟨b2, 0, none⟩)]) (by kernel_rfl) (mach_heights_1_ok ((i1 + 1 : Nat) : Int) (IntKind.i64.wrap (e4 + (IntKind.i64.wrap (((mach_pops.f e3.Op).2) - ((mach_pops.f e3.Op).1))))) b2 m9 Z6 cz6 _ _ _ hS180 _ hq10) ?_
                rintro _ w33 ⟨v13, rfl, hS179⟩
                refine ⟨_, rfl, ?_⟩
                have hS181 : St w0 w33 [Own.blk b2 (.cells #[v13] 24 (0, 0)), Own.of v13 3 r6.2, Own.blk b3 (.cells #[.int .i64 e3.Op, .int .i64 e3.A, .int .i64 e3.B] 29 (0, 0)), Own.blk b1 (.cells #[.int .i64 0, .int .i64 0] 40 (0, 0))] := hS179.unpack [Own.blk b2 (.cells #[v13] 24 (0, 0)), Own.of v13 3 r6.2]
                refine ge_batch [7, 8] (ans := []) (vs := [(11, .bool r6.1), (104, .bool r6.1)]) (l := []) (by kernel_rfl) trivial ?_
                refine ge_nil fun a hF => hK69 _ _ ?_ a hF
                refine we_seq fun K73 hK73 => ?_
                refine we_region [(0, 0), (1, 0)] rfl ?_
                refine ge_batch [0, 1] (ans := []) (vs := [(106, .bool (!r6.1)), (105, .bool r6.1)]) (l := []) (by kernel_rfl) trivial ?_
                refine ge_nil fun a hF => hK73 _ _ ?_ a hF
                by_cases hc37 : r6.1 = true
                · rw [if_pos hc37] at h
                  refine we_known (t := 106) (b := !r6.1) (v := false) (by kernel_rfl) (congrArg (fun z => !z) hc37) ?_
                  refine we_false (by kernel_rfl) ?_
                  refine we_skip fun a hF => hK15 _ _ ?_ a hF
                  refine we_region [(0, 0), (1, 0)] rfl ?_
                  refine ge_addn (d := 109) (ty := 3) (x := (.tmp 30)) (y := (.const (.int .i64 1))) (t := 3) (t2 := 3) (k := .i64) (m := i1) (by kernel_rfl) (by kernel_rfl) (by kernel_rfl) (by have h0 := hR0.small; omega) ?_
                  refine ge_batch [1] (ans := []) (vs := [(30, .int .i64 ((i1 + 1 : Nat) : Int))]) (l := []) (by kernel_rfl) trivial ?_
                  have hS182 := hS181.bring 1 rfl
                  have hS183 := hS182.bring 3 rfl
                  have hS184 := hS183.bring 2 rfl
                  have hS185 := hS184.takeN 3
                  obtain rfl := Option.some.inj h
                  exact ge_nil fun a hF => hQ _ _ _ (Outs.again ⟨v13, hS185, hF.weaken ⟨by kernel_rfl, by kernel_rfl, by kernel_rfl, by kernel_rfl, by kernel_rfl, by kernel_rfl, by kernel_rfl, trivial⟩⟩)
                · rw [if_neg hc37] at h
                  refine we_known (t := 106) (b := !r6.1) (v := true) (by kernel_rfl) (congrArg (fun z => !z) (Bool.eq_false_iff.2 hc37)) ?_
                  refine we_true (by kernel_rfl) ?_
                  refine we_seq fun K74 hK74 => ?_
                  refine we_region [(0, 0), (1, 0), (2, 2)] rfl ?_
                  refine ge_batch [0, 1] (ans := []) (vs := [(108, .agg #[.int .i64 8, .int .i64 (i1 : Int)]), (107, .int .i64 (i1 : Int))]) (l := []) (by kernel_rfl) trivial ?_
                  have hS186 := hS181.bring 3 rfl
                  refine ge_set (b := b1) (j := 0) (cs := #[.int .i64 0, .int .i64 0]) (t := 40) (vs := [.int .i64 8, .int .i64 (i1 : Int)]) hS186 (by kernel_rfl) rfl rfl fun w34 hS187 => ?_
                  have hS188 : St w0 w34 [Own.blk b1 (.cells #[.int .i64 8, .int .i64 (i1 : Int)] 40 (0, 0)), Own.blk b2 (.cells #[v13] 24 (0, 0)), Own.of v13 3 r6.2, Own.blk b3 (.cells #[.int .i64 e3.Op, .int .i64 e3.A, .int .i64 e3.B] 29 (0, 0))] := hS187
                  refine ge_nil fun a hF => hK74 _ _ ?_ a hF
                  have hS189 := hS188.takeN 0
                  obtain rfl := Option.some.inj h
                  exact we_ret fun a hF => hQ _ _ _ (Outs.out nofun (Exits.on ⟨rfl, (post_ret (rs := [.cell 2 40]) (ans := [.val (.int .i64 8), .val (.int .i64 (i1 : Int))]) (vs := [.agg #[.int .i64 8, .int .i64 (i1 : Int)]]) (l := [.loaded ⟨b1, 0, none⟩ (.int .i64 8), .loaded ⟨b1, 1, none⟩ (.int .i64 (i1 : Int))]) rfl (by kernel_rfl) ⟨hS188.cell 0 rfl rfl, hS188.cell 0 rfl rfl, trivial⟩ ⟨rfl, hS189⟩) a hF⟩))
              · rw [if_neg hc36] at h
                refine ge_known (t := 98) (b := q4) (c := false) (by kernel_rfl) (Bool.eq_false_iff.2 hc36) ?_
                refine ge_batch [2, 3, 4, 5] (ans := []) (vs := [(102, undef), (101, undef), (100, undef), (99, undef)]) (l := []) (by kernel_rfl) trivial ?_
                refine ge_off rfl rfl rfl (by kernel_rfl) ?_
                refine ge_batch [7, 8] (ans := []) (vs := [(11, .bool false), (104, .bool false)]) (l := []) (by kernel_rfl) trivial ?_
                refine ge_nil fun a hF => hK69 _ _ ?_ a hF
                refine we_seq fun K75 hK75 => ?_
                refine we_region [(0, 0), (1, 0)] rfl ?_
                refine ge_batch [0, 1] (ans := []) (vs := [(106, .bool true), (105, .bool false)]) (l := []) (by kernel_rfl) trivial ?_
                refine ge_nil fun a hF => hK75 _ _ ?_ a hF
                refine we_true (by kernel_rfl) ?_
                refine we_seq fun K76 hK76 => ?_
                refine we_region [(0, 0), (1, 0), (2, 2)] rfl ?_
                refine ge_batch [0, 1] (ans := []) (vs := [(108, .agg #[.int .i64 8, .int .i64 (i1 : Int)]), (107, .int .i64 (i1 : Int))]) (l := []) (by kernel_rfl) trivial ?_
                have hS190 := hS135.bring 2 rfl
                refine ge_set (b := b1) (j := 0) (cs := #[.int .i64 0, .int .i64 0]) (t := 40) (vs := [.int .i64 8, .int .i64 (i1 : Int)]) hS190 (by kernel_rfl) rfl rfl fun w35 hS191 => ?_
                have hS192 : St w0 w35 [Own.blk b1 (.cells #[.int .i64 8, .int .i64 (i1 : Int)] 40 (0, 0)), Own.blk b3 (.cells #[.int .i64 e3.Op, .int .i64 e3.A, .int .i64 e3.B] 29 (0, 0)), Own.blk b2 (.cells #[v11] 24 (0, 0)), Own.of v11 3 m9] := hS191
                refine ge_nil fun a hF => hK76 _ _ ?_ a hF
                have hS193 := hS192.takeN 0
                obtain rfl := Option.some.inj h
                exact we_ret fun a hF => hQ _ _ _ (Outs.out nofun (Exits.on ⟨rfl, (post_ret (rs := [.cell 2 40]) (ans := [.val (.int .i64 8), .val (.int .i64 (i1 : Int))]) (vs := [.agg #[.int .i64 8, .int .i64 (i1 : Int)]]) (l := [.loaded ⟨b1, 0, none⟩ (.int .i64 8), .loaded ⟨b1, 1, none⟩ (.int .i64 (i1 : Int))]) rfl (by kernel_rfl) ⟨hS192.cell 0 rfl rfl, hS192.cell 0 rfl rfl, trivial⟩ ⟨rfl, hS193⟩) a hF⟩))
        · rw [hq8] at h
          simp only [] at h
          refine we_keep (e' := ((0, .slice A0 l0.length c0) :: (2, .pointer (some ⟨b1, 0, none⟩)) :: (3, .pointer (some ⟨b2, 0, none⟩)) :: (5, .func (.func 106) #[] #[.pointer (some ⟨b2, 0, none⟩)]) :: (6, .int .i64 (i1 : Int)) :: (7, .pointer (some ⟨b3, 0, none⟩)) :: (8, .int .i64 (IntKind.i64.wrap (e4 + (IntKind.i64.wrap (((mach_pops.f e3.Op).2) - ((mach_pops.f e3.Op).1)))))) :: (9, .int .i64 ((mach_pops.f e3.Op).1)) :: (10, .int .i64 ((mach_pops.f e3.Op).2)) :: (11, .bool false) :: (28, .slice A0 l0.length c0) :: (29, .int .i64 (l0.length : Int)) :: (30, .int .i64 (i1 : Int)) :: (31, .bool true) :: (32, .int .i64 (i1 : Int)) :: (33, .pointer (some ⟨blkOf A0, offOf A0 + i1 * 3, none⟩)) :: (34, .agg #[.int .i64 e3.Op, .int .i64 e3.A, .int .i64 e3.B]) :: (35, (.slice Z2 m4.length cz2)) :: (36, .int .i64 (i1 : Int)) :: (37, .pointer (some ⟨blkOf Z2, offOf Z2 + i1 * 1, none⟩)) :: (38, .int .i64 e4) :: (39, .int .i64 e4) :: (40, .bool false) :: (43, .tuple #[.int .i64 ((mach_pops.f e3.Op).1), .int .i64 ((mach_pops.f e3.Op).2)]) :: (44, .pointer (some ⟨b3, 0, none⟩)) :: (45, .int .i64 e3.Op) :: (46, .tuple #[.int .i64 ((mach_pops.f e3.Op).1), .int .i64 ((mach_pops.f e3.Op).2)]) :: (47, .int .i64 ((mach_pops.f e3.Op).1)) :: (48, .int .i64 ((mach_pops.f e3.Op).2)) :: (49, .int .i64 e4) :: (50, .int .i64 ((mach_pops.f e3.Op).1)) :: (51, .bool (decide (e4 ≥ ((mach_pops.f e3.Op).1)))) :: (52, .bool false) :: (53, undef) :: (54, undef) :: (55, undef) :: (56, undef) :: (57, undef) :: (58, undef) :: (59, .bool false) :: (60, .int .i64 e4) :: (61, .int .i64 ((mach_pops.f e3.Op).2)) :: (62, .int .i64 ((mach_pops.f e3.Op).1)) :: (63, .int .i64 (IntKind.i64.wrap (((mach_pops.f e3.Op).2) - ((mach_pops.f e3.Op).1)))) :: (64, .int .i64 (IntKind.i64.wrap (e4 + (IntKind.i64.wrap (((mach_pops.f e3.Op).2) - ((mach_pops.f e3.Op).1)))))) :: [])) ⟨by kernel_rfl, by kernel_rfl, by kernel_rfl, by kernel_rfl, by kernel_rfl, by kernel_rfl, by kernel_rfl, by kernel_rfl, by kernel_rfl, by kernel_rfl, by kernel_rfl, by kernel_rfl, by kernel_rfl, by kernel_rfl, by kernel_rfl, by kernel_rfl, by kernel_rfl, by kernel_rfl, by kernel_rfl, by kernel_rfl, by kernel_rfl, by kernel_rfl, by kernel_rfl, by kernel_rfl, by kernel_rfl, by kernel_rfl, by kernel_rfl, by kernel_rfl, by kernel_rfl, by kernel_rfl, by kernel_rfl, by kernel_rfl, by kernel_rfl, by kernel_rfl, by kernel_rfl, by kernel_rfl, by kernel_rfl, by kernel_rfl, by kernel_rfl, by kernel_rfl, by kernel_rfl, by kernel_rfl, by kernel_rfl, by kernel_rfl, by kernel_rfl, trivial⟩ (mach_heights_p3 K w0 l0 A0 c0 hR0 hL0 b1 hc1 hc2 b2 Z1 cz1 m3 e2 hx4 i1 m4 hc5 e3 hx5 b3 Z2 cz2 e4 hx7 hc6 hc7 _ hq8 _ hS33 _ ?_)
          rintro _ a w1 ⟨_, rfl, hb⟩
          obtain rfl := Option.some.inj h
          exact hQ _ _ _ (Outs.out nofun (Exits.on ⟨rfl, hb⟩))
  · rw [if_neg hc5] at h
    refine we_known (t := 31) (b := decide ((i1 : Int) < (l0.length : Int))) (v := false) (by kernel_rfl) (decide_eq_false hc5) ?_
    refine we_false (by kernel_rfl) ?_
    have hS194 := hS.bring 2 rfl
    have hS195 := hS194.bring 2 rfl
    have hS196 := hS195.bring 2 rfl
    obtain rfl := Option.some.inj h
    exact we_exit fun a hF => hQ _ _ _ (Outs.out nofun (Exits.here ⟨v2, hS196, hF.weaken ⟨by kernel_rfl, by kernel_rfl, by kernel_rfl, trivial⟩⟩))
theorem mach_heights_ok (K : Nat) (l0 : List SIns) (A0 : Option Addr) (c0 : Nat) (w0 : World) (hR0 : RdL w0 A0 l0) (hL0 : l0.length ≤ c0) (r : SFault) (h : mach_heights.f K l0 = some r) :
    Calls Try.prog 86 #[.slice A0 l0.length c0] w0 (mach_heights.Post w0 r) := by
  have hS := St.start w0
  unfold mach_heights.f at h
  refine calls_enter (n := 120) (args := [.slice A0 l0.length c0]) (fn := Try.f86) rfl rfl rfl rfl ?_
  show WE _ _ _ _ [(0, .slice A0 l0.length c0)] _
  refine we_seq fun K1 hK1 => ?_
  refine we_region [(0, 1)] rfl ?_
  refine ge_new (d := some 2) (o := .cells #[.int .i64 0, .int .i64 0] 40) (v := fun b => .pointer (some ⟨b, 0, none⟩)) hS (fun b => by kernel_rfl) fun b1 w1 hx1 hS1 => ?_
  refine ge_nil fun a hF => hK1 _ _ ?_ a hF
  refine we_seq fun K2 hK2 => ?_
  refine we_region [(0, 0), (1, 0), (2, 0), (3, 1), (4, 1), (5, 2)] rfl ?_
  refine ge_batch [0, 1, 2] (ans := []) (vs := [(14, .int .i64 (IntKind.i64.wrap ((l0.length : Int) + 1))), (13, .int .i64 (l0.length : Int)), (12, .slice A0 l0.length c0)]) (l := []) (by kernel_rfl) trivial ?_
  by_cases hc1 : 0 ≤ (IntKind.i64.wrap ((l0.length : Int) + 1))
  · rw [if_pos hc1] at h
    by_cases hc2 : ((IntKind.i64.wrap ((l0.length : Int) + 1)).toNat) ≤ 17592186044416
    · rw [if_pos hc2] at h
      refine ge_make (α := Int) (d := 15) (t := 24) (el := 3) (bytes := 8) (l := ((IntKind.i64.wrap ((l0.length : Int) + 1)).toNat)) (c := ((IntKind.i64.wrap ((l0.length : Int) + 1)).toNat)) (x := (.tmp 14)) (y := (.tmp 14)) (ty := 24) (k1 := .i64) (k2 := .i64) (li := (IntKind.i64.wrap ((l0.length : Int) + 1))) (ci := (IntKind.i64.wrap ((l0.length : Int) + 1))) (z := .int .i64 0) (z' := (0 : Int)) (by kernel_rfl) (by kernel_rfl) (by kernel_rfl) (Int.toNat_of_nonneg hc1).symm (Int.toNat_of_nonneg hc1).symm (by kernel_rfl) (by kernel_rfl) rfl hS1 (Nat.le_refl _) rfl (by omega) fun v1 w2 _ hS2 => ?_
      refine ge_new (d := some 3) (o := .cells #[.slice none 0 0] 24) (v := fun b => .pointer (some ⟨b, 0, none⟩)) hS2 (fun b => by kernel_rfl) fun b2 w3 hx2 hS3 => ?_
      obtain ⟨Z1, cz1, rfl⟩ := hS3.open 1 rfl
      refine ge_set (b := b2) (j := 0) (cs := #[.slice none 0 0]) (t := 24) (vs := [(.slice Z1 (List.replicate ((IntKind.i64.wrap ((l0.length : Int) + 1)).toNat) (0 : Int)).length cz1)]) hS3 (by kernel_rfl) rfl rfl fun w4 hS4 => ?_
      have hS5 : St w0 w4 [Own.blk b2 (.cells #[(.slice Z1 (List.replicate ((IntKind.i64.wrap ((l0.length : Int) + 1)).toNat) (0 : Int)).length cz1)] 24 (0, 0)), Own.of (.slice Z1 (List.replicate ((IntKind.i64.wrap ((l0.length : Int) + 1)).toNat) (0 : Int)).length cz1) 3 (List.replicate ((IntKind.i64.wrap ((l0.length : Int) + 1)).toNat) (0 : Int)), Own.blk b1 (.cells #[.int .i64 0, .int .i64 0] 40 (0, 0))] := hS4
      refine ge_nil fun a hF => hK2 _ _ ?_ a hF
      refine we_seq fun K3 hK3 => ?_
      refine we_seq fun K4 hK4 => ?_
      refine we_region [(0, 0), (1, 0), (2, 0)] rfl ?_
      refine ge_batch [0, 1, 2] (ans := [.val ((.slice Z1 (List.replicate ((IntKind.i64.wrap ((l0.length : Int) + 1)).toNat) (0 : Int)).length cz1))]) (vs := [(18, .int .i64 0), (17, .int .i64 ((List.replicate ((IntKind.i64.wrap ((l0.length : Int) + 1)).toNat) (0 : Int)).length : Int)), (16, (.slice Z1 (List.replicate ((IntKind.i64.wrap ((l0.length : Int) + 1)).toNat) (0 : Int)).length cz1))]) (l := [.loaded ⟨b2, 0, none⟩ ((.slice Z1 (List.replicate ((IntKind.i64.wrap ((l0.length : Int) + 1)).toNat) (0 : Int)).length cz1))]) (by kernel_rfl) ⟨hS5.cell 0 rfl rfl, trivial⟩ ?_
      refine ge_nil fun a hF => hK4 _ _ ?_ a hF
      refine we_block ?_
      have hS6 := hS5.bring 1 rfl
      have hS7 := hS6.bring 2 rfl
      have hS8 := hS7.bring 2 rfl
      rcases hq1 : iter (mach_heights.r0 l0) K (0, (List.replicate ((IntKind.i64.wrap ((l0.length : Int) + 1)).toNat) (0 : Int))) with _ | (m3 | rr4)
      · rw [hq1] at h; cases h
      · rw [hq1] at h
        simp only [] at h
        refine we_iter (A := mach_heights.A0 K w0 l0 A0 c0 hR0 hL0 b1 hc1 hc2 b2 Z1 cz1) (B := mach_heights.B0 K w0 l0 A0 c0 hR0 hL0 b1 hc1 hc2 b2 Z1 cz1) hq1 (fun a hF => ⟨hS8, hF.weaken ⟨by kernel_rfl, by kernel_rfl, by kernel_rfl, by kernel_rfl, by kernel_rfl, trivial⟩⟩) (fun s o hf a w hA Q hQ => mach_heights_r0 K w0 l0 A0 c0 hR0 hL0 b1 hc1 hc2 b2 Z1 cz1 s o hf a w hA Q hQ) ?_
        rintro _ a w6 _ ⟨rfl, hS18, hF⟩
        replace hS18 : St w0 w6 [Own.blk b2 (.cells #[(.slice Z1 m3.length cz1)] 24 (0, 0)), Own.blk b1 (.cells #[.int .i64 0, .int .i64 0] 40 (0, 0)), Own.of (.slice Z1 m3.length cz1) 3 m3] := hS18
        refine hK3 [(0, .slice A0 l0.length c0), (2, .pointer (some ⟨b1, 0, none⟩)), (3, .pointer (some ⟨b2, 0, none⟩))] w6 ?_ a hF
        refine we_seq fun K9 hK9 => ?_
        refine we_region [(0, 0), (1, 0), (2, 2)] rfl ?_
        refine ge_batch [0] (ans := [.val ((.slice Z1 m3.length cz1))]) (vs := [(25, (.slice Z1 m3.length cz1))]) (l := [.loaded ⟨b2, 0, none⟩ ((.slice Z1 m3.length cz1))]) (by kernel_rfl) ⟨hS18.cell 0 rfl rfl, trivial⟩ ?_
        rcases hx4 : m3[0]? with _ | e2
        · rw [hx4] at h; cases h
        rw [hx4] at h
        simp only [] at h
        refine ge_index (d := 26) (ty := 0) (t := 24) (el := 3) (sz := 1) (m := m3.length) (c := cz1) (x := (.tmp 25)) (y := (.const (.int .i64 0))) (A := Z1) (k' := .i64) (j := 0) (jn := 0) (b0 := blkOf Z1) (o0 := offOf Z1) (by kernel_rfl) (by kernel_rfl) (by kernel_rfl) (by kernel_rfl) (by kernel_rfl) ((hS18.rdAt 2 rfl).eqSome (pos_of_get hx4)) rfl (lt_of_get hx4) ?_
        have hS19 := hS18.bring 2 rfl
        refine ge_seti (α := Int) (A := Z1) (nn := m3.length) (c := cz1) (t := 3) (l := m3) (x := e2) (x' := 0) (jn := 0) (j := 0) (vs := [.int .i64 0]) (l' := [.stored ⟨blkOf Z1, offOf Z1 + 0 * 1, none⟩ (.int .i64 0)]) hS19 (by kernel_rfl) (by kernel_rfl) hx4 rfl rfl rfl fun w7 hS20 => ?_
        have hS21 : St w0 w7 [Own.of (.slice Z1 m3.length cz1) 3 (m3.set 0 0), Own.blk b2 (.cells #[(.slice Z1 m3.length cz1)] 24 (0, 0)), Own.blk b1 (.cells #[.int .i64 0, .int .i64 0] 40 (0, 0))] := hS20
        have hE2 : m3.length = (m3.set 0 0).length := hS21.lenAt 0 rfl
        have hS22 : St w0 w7 [Own.of (.slice Z1 (m3.set 0 0).length cz1) 3 (m3.set 0 0), Own.blk b2 (.cells #[(.slice Z1 (m3.set 0 0).length cz1)] 24 (0, 0)), Own.blk b1 (.cells #[.int .i64 0, .int .i64 0] 40 (0, 0))] := by rw [← hE2]; exact hS21
        refine ge_same (t := 25) (v := (.slice Z1 m3.length cz1)) (v' := (.slice Z1 (m3.set 0 0).length cz1)) (by kernel_rfl) (by rw [hE2]) ?_
        refine ge_nil fun a hF => hK9 _ _ ?_ a hF
        refine we_seq fun K10 hK10 => ?_
        refine we_region [(0, 0), (1, 0)] rfl ?_
        refine ge_batch [0, 1] (ans := []) (vs := [(5, .func (.func 106) #[] #[.pointer (some ⟨b2, 0, none⟩)]), (27, .func (.func 106) #[] #[.pointer (some ⟨b2, 0, none⟩)])]) (l := []) (by kernel_rfl) trivial ?_
        refine ge_nil fun a hF => hK10 _ _ ?_ a hF
        refine we_seq fun K11 hK11 => ?_
        refine we_seq fun K12 hK12 => ?_
        refine we_region [(0, 0), (1, 0), (2, 0)] rfl ?_
        refine ge_batch [0, 1, 2] (ans := []) (vs := [(30, .int .i64 0), (29, .int .i64 (l0.length : Int)), (28, .slice A0 l0.length c0)]) (l := []) (by kernel_rfl) trivial ?_
        refine ge_nil fun a hF => hK12 _ _ ?_ a hF
        refine we_block ?_
        have hS23 := hS22.bring 2 rfl
        have hS24 := hS23.bring 2 rfl
        rcases hq11 : iter (mach_heights.r1 l0) K (0, (m3.set 0 0)) with _ | (m10 | rr3)
        · rw [hq11] at h; cases h
        · rw [hq11] at h
          simp only [] at h
          refine we_iter (A := mach_heights.A1 K w0 l0 A0 c0 hR0 hL0 b1 hc1 hc2 b2 Z1 cz1 m3 e2 hx4) (B := mach_heights.B1 K w0 l0 A0 c0 hR0 hL0 b1 hc1 hc2 b2 Z1 cz1 m3 e2 hx4) hq11 (fun a hF => ⟨(.slice Z1 (m3.set 0 0).length cz1), hS24, hF.weaken ⟨by kernel_rfl, by kernel_rfl, by kernel_rfl, by kernel_rfl, by kernel_rfl, by kernel_rfl, by kernel_rfl, trivial⟩⟩) (fun s o hf a w hA Q hQ => mach_heights_r1 K w0 l0 A0 c0 hR0 hL0 b1 hc1 hc2 b2 Z1 cz1 m3 e2 hx4 s o hf a w hA Q hQ) ?_
          rintro _ a w36 _ ⟨rfl, v14, hS197, hF⟩
          replace hS197 : St w0 w36 [Own.blk b2 (.cells #[v14] 24 (0, 0)), Own.blk b1 (.cells #[.int .i64 0, .int .i64 0] 40 (0, 0)), Own.of v14 3 m10] := hS197
          refine hK11 [(0, .slice A0 l0.length c0), (2, .pointer (some ⟨b1, 0, none⟩)), (3, .pointer (some ⟨b2, 0, none⟩))] w36 ?_ a hF
          refine we_seq fun K77 hK77 => ?_
          refine we_seq fun K78 hK78 => ?_
          refine we_region [(0, 0), (1, 0), (2, 0), (3, 0), (4, 0), (5, 0)] rfl ?_
          refine ge_batch [0, 1, 2] (ans := [.val (v14)]) (vs := [(112, .int .i64 (l0.length : Int)), (111, .slice A0 l0.length c0), (110, v14)]) (l := [.loaded ⟨b2, 0, none⟩ (v14)]) (by kernel_rfl) ⟨hS197.cell 0 rfl rfl, trivial⟩ ?_
          obtain ⟨Z7, cz7, rfl⟩ := hS197.open 2 rfl
          rcases hx10 : m10[l0.length]? with _ | e7
          · rw [hx10] at h; cases h
          rw [hx10] at h
          simp only [] at h
          refine ge_index (d := 113) (ty := 0) (t := 24) (el := 3) (sz := 1) (m := m10.length) (c := cz7) (x := (.tmp 110)) (y := (.tmp 112)) (A := Z7) (k' := .i64) (j := (l0.length : Int)) (jn := l0.length) (b0 := blkOf Z7) (o0 := offOf Z7) (by kernel_rfl) (by kernel_rfl) (by kernel_rfl) (by kernel_rfl) (by kernel_rfl) ((hS197.rdAt 2 rfl).eqSome (pos_of_get hx10)) rfl (lt_of_get hx10) ?_
          refine ge_batch [4, 5] (ans := [.val (.int .i64 e7)]) (vs := [(115, .bool (decide (e7 > 0))), (114, .int .i64 e7)]) (l := [.loaded ⟨blkOf Z7, offOf Z7 + l0.length * 1, none⟩ (.int .i64 e7)]) (by kernel_rfl) ⟨RdL.cell (j := 0) (hS197.rdAt 2 rfl) hx10 rfl, trivial⟩ ?_
          refine ge_nil fun a hF => hK78 _ _ ?_ a hF
          by_cases hc38 : e7 > 0
          · rw [if_pos hc38] at h
            refine we_known (t := 115) (b := decide (e7 > 0)) (v := true) (by kernel_rfl) (decide_eq_true hc38) ?_
            refine we_true (by kernel_rfl) ?_
            refine we_seq fun K79 hK79 => ?_
            refine we_region [(0, 0), (1, 0), (2, 0), (3, 2)] rfl ?_
            refine ge_batch [0, 1, 2] (ans := []) (vs := [(118, .agg #[.int .i64 8, .int .i64 (l0.length : Int)]), (117, .int .i64 (l0.length : Int)), (116, .slice A0 l0.length c0)]) (l := []) (by kernel_rfl) trivial ?_
            have hS198 := hS197.bring 1 rfl
            refine ge_set (b := b1) (j := 0) (cs := #[.int .i64 0, .int .i64 0]) (t := 40) (vs := [.int .i64 8, .int .i64 (l0.length : Int)]) hS198 (by kernel_rfl) rfl rfl fun w37 hS199 => ?_
            have hS200 : St w0 w37 [Own.blk b1 (.cells #[.int .i64 8, .int .i64 (l0.length : Int)] 40 (0, 0)), Own.blk b2 (.cells #[(.slice Z7 m10.length cz7)] 24 (0, 0)), Own.of (.slice Z7 m10.length cz7) 3 m10] := hS199
            refine ge_nil fun a hF => hK79 _ _ ?_ a hF
            have hS201 := hS200.takeN 0
            obtain rfl := Option.some.inj h
            exact we_ret (post_ret (rs := [.cell 2 40]) (ans := [.val (.int .i64 8), .val (.int .i64 (l0.length : Int))]) (vs := [.agg #[.int .i64 8, .int .i64 (l0.length : Int)]]) (l := [.loaded ⟨b1, 0, none⟩ (.int .i64 8), .loaded ⟨b1, 1, none⟩ (.int .i64 (l0.length : Int))]) rfl (by kernel_rfl) ⟨hS200.cell 0 rfl rfl, hS200.cell 0 rfl rfl, trivial⟩ ⟨rfl, hS201⟩)
          · rw [if_neg hc38] at h
            refine we_known (t := 115) (b := decide (e7 > 0)) (v := false) (by kernel_rfl) (decide_eq_false hc38) ?_
            refine we_false (by kernel_rfl) ?_
            refine we_skip fun a hF => hK77 _ _ ?_ a hF
            refine we_seq fun K80 hK80 => ?_
            refine we_region [(0, 0), (1, 2)] rfl ?_
            refine ge_batch [0] (ans := []) (vs := [(119, .agg #[.int .i64 0, .int .i64 0])]) (l := []) (by kernel_rfl) trivial ?_
            have hS202 := hS197.bring 1 rfl
            refine ge_set (b := b1) (j := 0) (cs := #[.int .i64 0, .int .i64 0]) (t := 40) (vs := [.int .i64 0, .int .i64 0]) hS202 (by kernel_rfl) rfl rfl fun w38 hS203 => ?_
            have hS204 : St w0 w38 [Own.blk b1 (.cells #[.int .i64 0, .int .i64 0] 40 (0, 0)), Own.blk b2 (.cells #[(.slice Z7 m10.length cz7)] 24 (0, 0)), Own.of (.slice Z7 m10.length cz7) 3 m10] := hS203
            refine ge_nil fun a hF => hK80 _ _ ?_ a hF
            have hS205 := hS204.takeN 0
            obtain rfl := Option.some.inj h
            exact we_ret (post_ret (rs := [.cell 2 40]) (ans := [.val (.int .i64 0), .val (.int .i64 0)]) (vs := [.agg #[.int .i64 0, .int .i64 0]]) (l := [.loaded ⟨b1, 0, none⟩ (.int .i64 0), .loaded ⟨b1, 1, none⟩ (.int .i64 0)]) rfl (by kernel_rfl) ⟨hS204.cell 0 rfl rfl, hS204.cell 0 rfl rfl, trivial⟩ ⟨rfl, hS205⟩)
        · rw [hq11] at h
          simp only [] at h
          refine we_iter (A := mach_heights.A1 K w0 l0 A0 c0 hR0 hL0 b1 hc1 hc2 b2 Z1 cz1 m3 e2 hx4) (B := mach_heights.B1 K w0 l0 A0 c0 hR0 hL0 b1 hc1 hc2 b2 Z1 cz1 m3 e2 hx4) hq11 (fun a hF => ⟨(.slice Z1 (m3.set 0 0).length cz1), hS24, hF.weaken ⟨by kernel_rfl, by kernel_rfl, by kernel_rfl, by kernel_rfl, by kernel_rfl, by kernel_rfl, by kernel_rfl, trivial⟩⟩) (fun s o hf a w hA Q hQ => mach_heights_r1 K w0 l0 A0 c0 hR0 hL0 b1 hc1 hc2 b2 Z1 cz1 m3 e2 hx4 s o hf a w hA Q hQ) ?_
          rintro _ a w1 _ ⟨rfl, hb⟩
          obtain rfl := Option.some.inj h
          exact hb
      · rw [hq1] at h
        simp only [] at h
        refine we_iter (A := mach_heights.A0 K w0 l0 A0 c0 hR0 hL0 b1 hc1 hc2 b2 Z1 cz1) (B := mach_heights.B0 K w0 l0 A0 c0 hR0 hL0 b1 hc1 hc2 b2 Z1 cz1) hq1 (fun a hF => ⟨hS8, hF.weaken ⟨by kernel_rfl, by kernel_rfl, by kernel_rfl, by kernel_rfl, by kernel_rfl, trivial⟩⟩) (fun s o hf a w hA Q hQ => mach_heights_r0 K w0 l0 A0 c0 hR0 hL0 b1 hc1 hc2 b2 Z1 cz1 s o hf a w hA Q hQ) ?_
        rintro _ a w1 _ ⟨rfl, hb⟩
        obtain rfl := Option.some.inj h
        exact hb
    · rw [if_neg hc2] at h
      cases h
  · rw [if_neg hc1] at h
    cases h
end Go.Proofs.Ytnckikjcjgmdlaa.GV
