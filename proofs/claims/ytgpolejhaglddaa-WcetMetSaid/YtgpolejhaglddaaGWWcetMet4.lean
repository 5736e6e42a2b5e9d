/- Walks of single functions, written by a program of this work. -/
import Derived.Test.YtgpolejhaglddaaGWWcetMet3
namespace Go.Proofs.Ytgpolejhaglddaa.GV
open Go Go.RowKit
set_option linter.unusedVariables false
set_option linter.unusedSimpArgs false
set_option maxRecDepth 100000

/-! (*punctual/mach.Machine).Tick -/
abbrev mach_Machine_Tick.Post (w0 : World) (bp0 : Nat) (lp0_0 : List SIns) (Ap0_0 : Option Addr) (cp0_0 : Nat) (lp0_1 : List Int) (Ap0_1 : Option Addr) (cp0_1 : Nat) (lp0_2 : List Int) (Ap0_2 : Option Addr) (cp0_2 : Nat) (lp0_3 : List SPut) (Ap0_3 : Option Addr) (cp0_3 : Nat) (lp0_4 : List Int) (Ap0_4 : Option Addr) (cp0_4 : Nat) (sp0_5 : List Int) (sp0_13 : Int) (sp0_14 : Int) (LT : List Own) (r : SIns × Bool × (List Int) × (List SPut) × (List Int) × (List Int) × Int × Int) (e : Ending) (w : World) : Prop := ∃ (nbp0_2 : Value) (nbp0_3 : Value) (nbp0_4 : Value), e = .returned (.tuple #[.agg #[vI r.1.Op, vI r.1.A, vI r.1.B], .bool r.2.1]) ∧ St w0 w [Own.blk bp0 (.cells #[(.slice Ap0_0 lp0_0.length cp0_0), (.slice Ap0_1 lp0_1.length cp0_1), nbp0_2, nbp0_3, nbp0_4, vI ((r.2.2.2.2.2.1[0]?).getD 0), vI ((r.2.2.2.2.2.1[1]?).getD 0), vI ((r.2.2.2.2.2.1[2]?).getD 0), vI ((r.2.2.2.2.2.1[3]?).getD 0), vI ((r.2.2.2.2.2.1[4]?).getD 0), vI ((r.2.2.2.2.2.1[5]?).getD 0), vI ((r.2.2.2.2.2.1[6]?).getD 0), vI ((r.2.2.2.2.2.1[7]?).getD 0), vI r.2.2.2.2.2.2.1, vI r.2.2.2.2.2.2.2] 71 (0, 0)), Own.of (.slice Ap0_0 lp0_0.length cp0_0) 41 lp0_0, Own.of (.slice Ap0_1 lp0_1.length cp0_1) 3 lp0_1, Own.of nbp0_2 3 r.2.2.1, Own.of nbp0_3 56 r.2.2.2.1, Own.of nbp0_4 3 r.2.2.2.2.1, Own.all LT]
def mach_Machine_Tick.p0 (lp0_0 : List SIns) (lp0_1 : List Int) (lp0_2 : List Int) (lp0_3 : List SPut) (lp0_4 : List Int) (sp0_5 : List Int) (sp0_13 : Int) (sp0_14 : Int) (e1 : SIns) : Option (Int ⊕ (SIns × Bool × (List Int) × (List SPut) × (List Int) × (List Int) × Int × Int)) :=
  if sp0_14 = 0 then
   match mach_Machine_over.f lp0_0 lp0_1 lp0_2 lp0_3 lp0_4 sp0_5 sp0_13 sp0_14 e1 with
   | none => none
   | some r1 =>
    some (.inl (mach_Cost.f e1 r1))
  else
   some (.inl sp0_14)
def mach_Machine_Tick.f (lp0_0 : List SIns) (lp0_1 : List Int) (lp0_2 : List Int) (lp0_3 : List SPut) (lp0_4 : List Int) (sp0_5 : List Int) (sp0_13 : Int) (sp0_14 : Int) : Option (SIns × Bool × (List Int) × (List SPut) × (List Int) × (List Int) × Int × Int) :=
 if (mach_Machine_Done.f lp0_0 lp0_1 lp0_2 lp0_3 lp0_4 sp0_5 sp0_13 sp0_14) = true then
  some ((⟨0, 0, 0⟩ : SIns), false, lp0_2, lp0_3, lp0_4, sp0_5, sp0_13, sp0_14)
 else
  if 0 ≤ sp0_13 then
   match lp0_0[(sp0_13).toNat]? with
   | none => none
   | some e1 =>
    match mach_Machine_Tick.p0 lp0_0 lp0_1 lp0_2 lp0_3 lp0_4 sp0_5 sp0_13 sp0_14 e1 with
    | none => none
    | some (.inl z2) =>
     if (IntKind.i64.wrap (z2 - 1)) > 0 then
      some (e1, false, lp0_2, lp0_3, lp0_4, sp0_5, sp0_13, IntKind.i64.wrap (z2 - 1))
     else
      match mach_Machine_do.f lp0_0 lp0_1 lp0_2 lp0_3 lp0_4 sp0_5 sp0_13 (IntKind.i64.wrap (z2 - 1)) e1 with
      | none => none
      | some r2 =>
       some (e1, true, r2.2.1, r2.2.2.1, r2.2.2.2.1, r2.2.2.2.2, r2.1, IntKind.i64.wrap (z2 - 1))
    | some (.inr rr1) =>
     some rr1
  else
   none
abbrev mach_Machine_Tick.A0 (w0 : World) (bp0 : Nat) (lp0_0 : List SIns) (Ap0_0 : Option Addr) (cp0_0 : Nat) (lp0_1 : List Int) (Ap0_1 : Option Addr) (cp0_1 : Nat) (lp0_2 : List Int) (Ap0_2 : Option Addr) (cp0_2 : Nat) (lp0_3 : List SPut) (Ap0_3 : Option Addr) (cp0_3 : Nat) (lp0_4 : List Int) (Ap0_4 : Option Addr) (cp0_4 : Nat) (sp0_5 : List Int) (sp0_13 : Int) (LT : List Own) (b1 : Nat) (e1 : SIns) (b2 : Nat) : Int → Act → World → Prop := fun (s : Int) a w => St w0 w [Own.blk b2 (.cells #[vI e1.Op, vI e1.A, vI e1.B] 41 (0, 0)), Own.blk bp0 (.cells #[(.slice Ap0_0 lp0_0.length cp0_0), (.slice Ap0_1 lp0_1.length cp0_1), (.slice Ap0_2 lp0_2.length cp0_2), (.slice Ap0_3 lp0_3.length cp0_3), (.slice Ap0_4 lp0_4.length cp0_4), vI ((sp0_5[0]?).getD 0), vI ((sp0_5[1]?).getD 0), vI ((sp0_5[2]?).getD 0), vI ((sp0_5[3]?).getD 0), vI ((sp0_5[4]?).getD 0), vI ((sp0_5[5]?).getD 0), vI ((sp0_5[6]?).getD 0), vI ((sp0_5[7]?).getD 0), vI sp0_13, vI s] 71 (0, 0)), Own.blk b1 (.cells #[vI 0, vI 0, vI 0] 41 (0, 0)), Own.of (.slice Ap0_0 lp0_0.length cp0_0) 41 lp0_0, Own.of (.slice Ap0_1 lp0_1.length cp0_1) 3 lp0_1, Own.of (.slice Ap0_2 lp0_2.length cp0_2) 3 lp0_2, Own.of (.slice Ap0_3 lp0_3.length cp0_3) 56 lp0_3, Own.of (.slice Ap0_4 lp0_4.length cp0_4) 3 lp0_4, Own.all LT] ∧ Frm 51 a [(0, pP bp0 0), (2, pP b1 0), (4, pP b2 0)]
abbrev mach_Machine_Tick.B0 (w0 : World) (bp0 : Nat) (lp0_0 : List SIns) (Ap0_0 : Option Addr) (cp0_0 : Nat) (lp0_1 : List Int) (Ap0_1 : Option Addr) (cp0_1 : Nat) (lp0_2 : List Int) (Ap0_2 : Option Addr) (cp0_2 : Nat) (lp0_3 : List SPut) (Ap0_3 : Option Addr) (cp0_3 : Nat) (lp0_4 : List Int) (Ap0_4 : Option Addr) (cp0_4 : Nat) (sp0_5 : List Int) (sp0_13 : Int) (sp0_14 : Int) (LT : List Own) : (SIns × Bool × (List Int) × (List SPut) × (List Int) × (List Int) × Int × Int) → Exit → Act → World → Prop := Rets Try.prog Try.f27 (mach_Machine_Tick.Post w0 bp0 lp0_0 Ap0_0 cp0_0 lp0_1 Ap0_1 cp0_1 lp0_2 Ap0_2 cp0_2 lp0_3 Ap0_3 cp0_3 lp0_4 Ap0_4 cp0_4 sp0_5 sp0_13 sp0_14 LT)
theorem mach_Machine_Tick_p0 (K : Nat) (w0 : World) (bp0 : Nat) (lp0_0 : List SIns) (Ap0_0 : Option Addr) (cp0_0 : Nat) (lp0_1 : List Int) (Ap0_1 : Option Addr) (cp0_1 : Nat) (lp0_2 : List Int) (Ap0_2 : Option Addr) (cp0_2 : Nat) (lp0_3 : List SPut) (Ap0_3 : Option Addr) (cp0_3 : Nat) (lp0_4 : List Int) (Ap0_4 : Option Addr) (cp0_4 : Nat) (sp0_5 : List Int) (sp0_13 : Int) (sp0_14 : Int) (LT : List Own) (b1 : Nat) (hc1 : ¬ ((mach_Machine_Done.f lp0_0 lp0_1 lp0_2 lp0_3 lp0_4 sp0_5 sp0_13 sp0_14) = true)) (hc2 : 0 ≤ sp0_13) (e1 : SIns) (hx2 : lp0_0[(sp0_13).toNat]? = some e1) (b2 : Nat) (o : Int ⊕ (SIns × Bool × (List Int) × (List SPut) × (List Int) × (List Int) × Int × Int)) (h : mach_Machine_Tick.p0 lp0_0 lp0_1 lp0_2 lp0_3 lp0_4 sp0_5 sp0_13 sp0_14 e1 = some o) (w : World) (hS : St w0 w [Own.blk b2 (.cells #[vI e1.Op, vI e1.A, vI e1.B] 41 (0, 0)), Own.blk bp0 (.cells #[(.slice Ap0_0 lp0_0.length cp0_0), (.slice Ap0_1 lp0_1.length cp0_1), (.slice Ap0_2 lp0_2.length cp0_2), (.slice Ap0_3 lp0_3.length cp0_3), (.slice Ap0_4 lp0_4.length cp0_4), vI ((sp0_5[0]?).getD 0), vI ((sp0_5[1]?).getD 0), vI ((sp0_5[2]?).getD 0), vI ((sp0_5[3]?).getD 0), vI ((sp0_5[4]?).getD 0), vI ((sp0_5[5]?).getD 0), vI ((sp0_5[6]?).getD 0), vI ((sp0_5[7]?).getD 0), vI sp0_13, vI sp0_14] 71 (0, 0)), Own.of (.slice Ap0_0 lp0_0.length cp0_0) 41 lp0_0, Own.of (.slice Ap0_1 lp0_1.length cp0_1) 3 lp0_1, Own.of (.slice Ap0_2 lp0_2.length cp0_2) 3 lp0_2, Own.of (.slice Ap0_3 lp0_3.length cp0_3) 56 lp0_3, Own.of (.slice Ap0_4 lp0_4.length cp0_4) 3 lp0_4, Own.blk b1 (.cells #[vI 0, vI 0, vI 0] 41 (0, 0)), Own.all LT]) (Q : Exit → Act → World → Prop) (hQ : ∀ x a w, Outs (mach_Machine_Tick.A0 w0 bp0 lp0_0 Ap0_0 cp0_0 lp0_1 Ap0_1 cp0_1 lp0_2 Ap0_2 cp0_2 lp0_3 Ap0_3 cp0_3 lp0_4 Ap0_4 cp0_4 sp0_5 sp0_13 LT b1 e1 b2) (mach_Machine_Tick.B0 w0 bp0 lp0_0 Ap0_0 cp0_0 lp0_1 Ap0_1 cp0_1 lp0_2 Ap0_2 cp0_2 lp0_3 Ap0_3 cp0_3 lp0_4 Ap0_4 cp0_4 sp0_5 sp0_13 sp0_14 LT) o x a w → Q x a w) : WE Try.prog 51 (subF Try.f27 [1, 1, 1, 0]) Q [(0, pP bp0 0), (2, pP b1 0), (3, .bool false), (4, pP b2 0), (5, pP bp0 0), (6, .bool false), (8, pP bp0 0), (9, pP bp0 0), (10, pP bp0 0), (11, (.slice Ap0_0 lp0_0.length cp0_0)), (12, pP bp0 0), (13, pP bp0 0), (14, pP bp0 13), (15, vI sp0_13), (16, .pointer (some ⟨blkOf Ap0_0, offOf Ap0_0 + (sp0_13).toNat * 3, none⟩)), (17, .agg #[vI e1.Op, vI e1.A, vI e1.B])] w := by
 simp only [mach_Machine_Tick.p0] at h
 refine ws fun K7 hK7 => ?_
 refine wr [(0, 0), (1, 0), (2, 0), (3, 0), (4, 0)] ?_
 refine gb [0, 1, 2, 3, 4] [(22, .bool (sp0_14 == 0)), (21, vI sp0_14), (20, pP bp0 14), (19, pP bp0 0), (18, pP bp0 0)] [.loaded ⟨bp0, 14, none⟩ (vI sp0_14)] ⟨hS.c 1, trivial⟩ ?_
 refine gn hK7 ?_
 by_cases hc3 : sp0_14 = 0
 ·rw [if_pos hc3] at h
  refine wk 22 (sp0_14 == 0) true (beq_iff_eq.2 hc3) ?_
  refine we_true (by kernel_rfl) ?_
  refine we_orders3 (by kernel_rfl) [(1, [⟨b2, 0, none⟩, ⟨b2, 1, none⟩, ⟨b2, 2, none⟩], [], []), (3, [⟨b2, 0, none⟩, ⟨b2, 1, none⟩, ⟨b2, 2, none⟩], [4, 5], [])] (.vals [0] (.vals [1] (.vals [2] (.vals [3] (.alt 4 2 (.alt 5 1 (.vals [6] (.vals [7] (.alt 8 2 .fin .nomore))) .nomore) .nomore))))) (by kernel_rfl) (by kernel_rfl) ?_
  have hS26 := hS.drew
  refine go3_batch [0] (ans := []) (vs := [(23, pP bp0 0)]) (l := []) (by kernel_rfl) trivial mem_nil3 ?_
  refine go3_batch [1] (ans := [.val (vI e1.Op), .val (vI e1.A), .val (vI e1.B)]) (vs := [(24, .agg #[vI e1.Op, vI e1.A, vI e1.B])]) (l := [.loaded ⟨b2, 0, none⟩ (vI e1.Op), .loaded ⟨b2, 1, none⟩ (vI e1.A), .loaded ⟨b2, 2, none⟩ (vI e1.B)]) (by kernel_rfl) ⟨hS26.c 0, hS26.c 0, hS26.c 0, trivial⟩ (mem_one3 (by kernel_rfl)) ?_
  refine go3_batch [2] (ans := []) (vs := [(25, pP bp0 0)]) (l := []) (by kernel_rfl) trivial mem_nil3 ?_
  refine go3_batch [3] (ans := [.val (vI e1.Op), .val (vI e1.A), .val (vI e1.B)]) (vs := [(26, .agg #[vI e1.Op, vI e1.A, vI e1.B])]) (l := [.loaded ⟨b2, 0, none⟩ (vI e1.Op), .loaded ⟨b2, 1, none⟩ (vI e1.A), .loaded ⟨b2, 2, none⟩ (vI e1.B)]) (by kernel_rfl) ⟨hS26.c 0, hS26.c 0, hS26.c 0, trivial⟩ (mem_one3 (by kernel_rfl)) ?_
  refine go_alt3 (fun KK hKK => ?_) ?_
  ·rcases hq2 : mach_Machine_over.f lp0_0 lp0_1 lp0_2 lp0_3 lp0_4 sp0_5 sp0_13 sp0_14 e1 with _ | r1
   ·rw [hq2] at h; cases h
   rw [hq2] at h
   simp only [] at h
   have hS27 := hS26.bring 6 rfl
   have hS28 := hS27.bring 6 rfl
   have hS29 := hS28.bring 6 rfl
   have hS30 := hS29.bring 6 rfl
   have hS31 := hS30.bring 6 rfl
   have hS32 := hS31.bring 6 rfl
   have hS34 : St w0 w.drew [Own.blk bp0 (.cells #[(.slice Ap0_0 lp0_0.length cp0_0), (.slice Ap0_1 lp0_1.length cp0_1), (.slice Ap0_2 lp0_2.length cp0_2), (.slice Ap0_3 lp0_3.length cp0_3), (.slice Ap0_4 lp0_4.length cp0_4), vI ((sp0_5[0]?).getD 0), vI ((sp0_5[1]?).getD 0), vI ((sp0_5[2]?).getD 0), vI ((sp0_5[3]?).getD 0), vI ((sp0_5[4]?).getD 0), vI ((sp0_5[5]?).getD 0), vI ((sp0_5[6]?).getD 0), vI ((sp0_5[7]?).getD 0), vI sp0_13, vI sp0_14] 71 (0, 0)), Own.of (.slice Ap0_0 lp0_0.length cp0_0) 41 lp0_0, Own.of (.slice Ap0_1 lp0_1.length cp0_1) 3 lp0_1, Own.of (.slice Ap0_2 lp0_2.length cp0_2) 3 lp0_2, Own.of (.slice Ap0_3 lp0_3.length cp0_3) 56 lp0_3, Own.of (.slice Ap0_4 lp0_4.length cp0_4) 3 lp0_4, Own.all [Own.blk b2 (.cells #[vI e1.Op, vI e1.A, vI e1.B] 41 (0, 0)), Own.blk b1 (.cells #[vI 0, vI 0, vI 0] 41 (0, 0)), Own.all LT]] := hS32.packN 6
   refine ge_call2 (m := 0) (d := some 27) (f := 45) (args := #[pP bp0 0, .agg #[vI e1.Op, vI e1.A, vI e1.B]]) (by kernel_rfl) (mach_Machine_over_ok bp0 lp0_0 Ap0_0 cp0_0 lp0_1 Ap0_1 cp0_1 lp0_2 Ap0_2 cp0_2 lp0_3 Ap0_3 cp0_3 lp0_4 Ap0_4 cp0_4 sp0_5 sp0_13 sp0_14 e1 _ _ _ hS34 _ hq2) ?_
   rintro _ w6 ⟨rfl, hS33⟩
   refine ⟨_, rfl, ?_⟩
   have hS35 : St w0 w6 [Own.blk bp0 (.cells #[(.slice Ap0_0 lp0_0.length cp0_0), (.slice Ap0_1 lp0_1.length cp0_1), (.slice Ap0_2 lp0_2.length cp0_2), (.slice Ap0_3 lp0_3.length cp0_3), (.slice Ap0_4 lp0_4.length cp0_4), vI ((sp0_5[0]?).getD 0), vI ((sp0_5[1]?).getD 0), vI ((sp0_5[2]?).getD 0), vI ((sp0_5[3]?).getD 0), vI ((sp0_5[4]?).getD 0), vI ((sp0_5[5]?).getD 0), vI ((sp0_5[6]?).getD 0), vI ((sp0_5[7]?).getD 0), vI sp0_13, vI sp0_14] 71 (0, 0)), Own.of (.slice Ap0_0 lp0_0.length cp0_0) 41 lp0_0, Own.of (.slice Ap0_1 lp0_1.length cp0_1) 3 lp0_1, Own.of (.slice Ap0_2 lp0_2.length cp0_2) 3 lp0_2, Own.of (.slice Ap0_3 lp0_3.length cp0_3) 56 lp0_3, Own.of (.slice Ap0_4 lp0_4.length cp0_4) 3 lp0_4, Own.blk b2 (.cells #[vI e1.Op, vI e1.A, vI e1.B] 41 (0, 0)), Own.blk b1 (.cells #[vI 0, vI 0, vI 0] 41 (0, 0)), Own.all LT] := hS33.unpack [Own.blk bp0 (.cells #[(.slice Ap0_0 lp0_0.length cp0_0), (.slice Ap0_1 lp0_1.length cp0_1), (.slice Ap0_2 lp0_2.length cp0_2), (.slice Ap0_3 lp0_3.length cp0_3), (.slice Ap0_4 lp0_4.length cp0_4), vI ((sp0_5[0]?).getD 0), vI ((sp0_5[1]?).getD 0), vI ((sp0_5[2]?).getD 0), vI ((sp0_5[3]?).getD 0), vI ((sp0_5[4]?).getD 0), vI ((sp0_5[5]?).getD 0), vI ((sp0_5[6]?).getD 0), vI ((sp0_5[7]?).getD 0), vI sp0_13, vI sp0_14] 71 (0, 0)), Own.of (.slice Ap0_0 lp0_0.length cp0_0) 41 lp0_0, Own.of (.slice Ap0_1 lp0_1.length cp0_1) 3 lp0_1, Own.of (.slice Ap0_2 lp0_2.length cp0_2) 3 lp0_2, Own.of (.slice Ap0_3 lp0_3.length cp0_3) 56 lp0_3, Own.of (.slice Ap0_4 lp0_4.length cp0_4) 3 lp0_4]
   refine ge_nil fun a hF => hKK _ _ (RS.of2 (l := [.loaded ⟨b2, 0, none⟩ (vI e1.Op), .loaded ⟨b2, 1, none⟩ (vI e1.A), .loaded ⟨b2, 2, none⟩ (vI e1.B)]) (by kernel_rfl) ⟨hS26.c 0, hS26.c 0, hS26.c 0, trivial⟩ ⟨hS35.c 6, hS35.c 6, hS35.c 6, trivial⟩) ?_ a hF
   refine go_alt3 (fun KK hKK => ?_) ?_
   ·refine ge_one2 ?_
    refine ge_call (d := some 28) (f := 42) (args := #[.agg #[vI e1.Op, vI e1.A, vI e1.B], .bool r1]) (by kernel_rfl) (mach_Cost_ok e1 r1 _ _ rfl) ?_
    rintro _ w7 ⟨rfl, hS36⟩
    refine ⟨_, rfl, hS36.below, ?_⟩
    have hS37 := hS35.call hS36
    refine ge_nil fun a hF => hKK _ _ (RS.of2 (l := []) (by kernel_rfl) trivial trivial) ?_ a hF
    refine go3_batch [6, 7] (ans := []) (vs := [(30, pP bp0 14), (29, pP bp0 0)]) (l := []) (by kernel_rfl) trivial mem_nil3 ?_
    refine go_alt3 (fun KK hKK => ?_) ?_
    ·refine gs bp0 14 #[(.slice Ap0_0 lp0_0.length cp0_0), (.slice Ap0_1 lp0_1.length cp0_1), (.slice Ap0_2 lp0_2.length cp0_2), (.slice Ap0_3 lp0_3.length cp0_3), (.slice Ap0_4 lp0_4.length cp0_4), vI ((sp0_5[0]?).getD 0), vI ((sp0_5[1]?).getD 0), vI ((sp0_5[2]?).getD 0), vI ((sp0_5[3]?).getD 0), vI ((sp0_5[4]?).getD 0), vI ((sp0_5[5]?).getD 0), vI ((sp0_5[6]?).getD 0), vI ((sp0_5[7]?).getD 0), vI sp0_13, vI sp0_14] 71 [vI (mach_Cost.f e1 r1)] hS37 fun w8 hS38 => ?_
     have hS39 : St w0 w8 [Own.blk bp0 (.cells #[(.slice Ap0_0 lp0_0.length cp0_0), (.slice Ap0_1 lp0_1.length cp0_1), (.slice Ap0_2 lp0_2.length cp0_2), (.slice Ap0_3 lp0_3.length cp0_3), (.slice Ap0_4 lp0_4.length cp0_4), vI ((sp0_5[0]?).getD 0), vI ((sp0_5[1]?).getD 0), vI ((sp0_5[2]?).getD 0), vI ((sp0_5[3]?).getD 0), vI ((sp0_5[4]?).getD 0), vI ((sp0_5[5]?).getD 0), vI ((sp0_5[6]?).getD 0), vI ((sp0_5[7]?).getD 0), vI sp0_13, vI (mach_Cost.f e1 r1)] 71 (0, 0)), Own.of (.slice Ap0_0 lp0_0.length cp0_0) 41 lp0_0, Own.of (.slice Ap0_1 lp0_1.length cp0_1) 3 lp0_1, Own.of (.slice Ap0_2 lp0_2.length cp0_2) 3 lp0_2, Own.of (.slice Ap0_3 lp0_3.length cp0_3) 56 lp0_3, Own.of (.slice Ap0_4 lp0_4.length cp0_4) 3 lp0_4, Own.blk b2 (.cells #[vI e1.Op, vI e1.A, vI e1.B] 41 (0, 0)), Own.blk b1 (.cells #[vI 0, vI 0, vI 0] 41 (0, 0)), Own.all LT] := hS38
     refine ge_nil fun a hF => hKK _ _ (RS.of2 (l := []) (by kernel_rfl) trivial trivial) ?_ a hF
     have hS40 := hS39.bring 8 rfl
     have hS41 := hS40.bring 6 rfl
     have hS42 := hS41.bring 6 rfl
     have hS43 := hS42.bring 6 rfl
     have hS44 := hS43.bring 6 rfl
     have hS45 := hS44.bring 6 rfl
     have hS46 := hS45.bring 8 rfl
     have hS47 := hS46.bring 7 rfl
     have hS48 := hS47.bring 8 rfl
     obtain rfl := si h
     exact go_fin3 fun a hF => hQ _ _ _ (Outs.again ⟨hS48, hF.weaken ea⟩)
    exact go_nomore3
   exact go_nomore3
  exact go_nomore3
 ·rw [if_neg hc3] at h
  refine wk 22 (sp0_14 == 0) false (beq_eq_false_iff_ne.2 hc3) ?_
  refine we_false (by kernel_rfl) ?_
  have hS49 := hS.bring 8 rfl
  have hS50 := hS49.bring 7 rfl
  have hS51 := hS50.bring 7 rfl
  have hS52 := hS51.bring 7 rfl
  have hS53 := hS52.bring 7 rfl
  have hS54 := hS53.bring 7 rfl
  have hS55 := hS54.bring 8 rfl
  have hS56 := hS55.bring 8 rfl
  have hS57 := hS56.bring 8 rfl
  obtain rfl := si h
  exact we_skip fun a hF => hQ _ _ _ (Outs.again ⟨hS57, hF.weaken ea⟩)
theorem mach_Machine_Tick_ok (bp0 : Nat) (lp0_0 : List SIns) (Ap0_0 : Option Addr) (cp0_0 : Nat) (lp0_1 : List Int) (Ap0_1 : Option Addr) (cp0_1 : Nat) (lp0_2 : List Int) (Ap0_2 : Option Addr) (cp0_2 : Nat) (lp0_3 : List SPut) (Ap0_3 : Option Addr) (cp0_3 : Nat) (lp0_4 : List Int) (Ap0_4 : Option Addr) (cp0_4 : Nat) (sp0_5 : List Int) (sp0_13 : Int) (sp0_14 : Int) (w0 wE : World) (LT : List Own) (hS : St w0 wE [Own.blk bp0 (.cells #[(.slice Ap0_0 lp0_0.length cp0_0), (.slice Ap0_1 lp0_1.length cp0_1), (.slice Ap0_2 lp0_2.length cp0_2), (.slice Ap0_3 lp0_3.length cp0_3), (.slice Ap0_4 lp0_4.length cp0_4), vI ((sp0_5[0]?).getD 0), vI ((sp0_5[1]?).getD 0), vI ((sp0_5[2]?).getD 0), vI ((sp0_5[3]?).getD 0), vI ((sp0_5[4]?).getD 0), vI ((sp0_5[5]?).getD 0), vI ((sp0_5[6]?).getD 0), vI ((sp0_5[7]?).getD 0), vI sp0_13, vI sp0_14] 71 (0, 0)), Own.of (.slice Ap0_0 lp0_0.length cp0_0) 41 lp0_0, Own.of (.slice Ap0_1 lp0_1.length cp0_1) 3 lp0_1, Own.of (.slice Ap0_2 lp0_2.length cp0_2) 3 lp0_2, Own.of (.slice Ap0_3 lp0_3.length cp0_3) 56 lp0_3, Own.of (.slice Ap0_4 lp0_4.length cp0_4) 3 lp0_4, Own.all LT]) (r : SIns × Bool × (List Int) × (List SPut) × (List Int) × (List Int) × Int × Int) (h : mach_Machine_Tick.f lp0_0 lp0_1 lp0_2 lp0_3 lp0_4 sp0_5 sp0_13 sp0_14 = some r) :
  Calls Try.prog 27 #[pP bp0 0] wE (mach_Machine_Tick.Post w0 bp0 lp0_0 Ap0_0 cp0_0 lp0_1 Ap0_1 cp0_1 lp0_2 Ap0_2 cp0_2 lp0_3 Ap0_3 cp0_3 lp0_4 Ap0_4 cp0_4 sp0_5 sp0_13 sp0_14 LT r) := by
 unfold mach_Machine_Tick.f at h
 refine calls_enter (n := 51) (args := [pP bp0 0]) (fn := Try.f27) rfl rfl rfl rfl ?_
 show WE _ _ _ _ [(0, pP bp0 0)] _
 refine ws fun K1 hK1 => ?_
 refine wr [(0, 1), (1, 0)] ?_
 refine gw (some 2) (.cells #[vI 0, vI 0, vI 0] 41) (fun b => pP b 0) hS fun b1 w1 hx1 hS1 => ?_
 refine gb0 [1] [(3, .bool false)] ?_
 refine gn hK1 ?_
 refine ws fun K2 hK2 => ?_
 refine ws fun K3 hK3 => ?_
 refine wr [(0, 0), (1, 2)] ?_
 refine gb0 [0] [(5, pP bp0 0)] ?_
 have hS2 := hS1.bring 6 rfl
 have hS3 := hS2.bring 6 rfl
 have hS4 := hS3.bring 6 rfl
 have hS5 := hS4.bring 6 rfl
 have hS6 := hS5.bring 6 rfl
 have hS7 := hS6.bring 6 rfl
 have hS9 : St w0 w1 [Own.blk bp0 (.cells #[(.slice Ap0_0 lp0_0.length cp0_0), (.slice Ap0_1 lp0_1.length cp0_1), (.slice Ap0_2 lp0_2.length cp0_2), (.slice Ap0_3 lp0_3.length cp0_3), (.slice Ap0_4 lp0_4.length cp0_4), vI ((sp0_5[0]?).getD 0), vI ((sp0_5[1]?).getD 0), vI ((sp0_5[2]?).getD 0), vI ((sp0_5[3]?).getD 0), vI ((sp0_5[4]?).getD 0), vI ((sp0_5[5]?).getD 0), vI ((sp0_5[6]?).getD 0), vI ((sp0_5[7]?).getD 0), vI sp0_13, vI sp0_14] 71 (0, 0)), Own.of (.slice Ap0_0 lp0_0.length cp0_0) 41 lp0_0, Own.of (.slice Ap0_1 lp0_1.length cp0_1) 3 lp0_1, Own.of (.slice Ap0_2 lp0_2.length cp0_2) 3 lp0_2, Own.of (.slice Ap0_3 lp0_3.length cp0_3) 56 lp0_3, Own.of (.slice Ap0_4 lp0_4.length cp0_4) 3 lp0_4, Own.all [Own.blk b1 (.cells #[vI 0, vI 0, vI 0] 41 (0, 0)), Own.all LT]] := hS7.packN 6
 refine ge_call2 (m := 0) (d := some 6) (f := 26) (args := #[pP bp0 0]) (by kernel_rfl) (mach_Machine_Done_ok bp0 lp0_0 Ap0_0 cp0_0 lp0_1 Ap0_1 cp0_1 lp0_2 Ap0_2 cp0_2 lp0_3 Ap0_3 cp0_3 lp0_4 Ap0_4 cp0_4 sp0_5 sp0_13 sp0_14 _ _ _ hS9 _ rfl) ?_
 rintro _ w2 ⟨rfl, hS8⟩
 refine ⟨_, rfl, ?_⟩
 have hS10 : St w0 w2 [Own.blk bp0 (.cells #[(.slice Ap0_0 lp0_0.length cp0_0), (.slice Ap0_1 lp0_1.length cp0_1), (.slice Ap0_2 lp0_2.length cp0_2), (.slice Ap0_3 lp0_3.length cp0_3), (.slice Ap0_4 lp0_4.length cp0_4), vI ((sp0_5[0]?).getD 0), vI ((sp0_5[1]?).getD 0), vI ((sp0_5[2]?).getD 0), vI ((sp0_5[3]?).getD 0), vI ((sp0_5[4]?).getD 0), vI ((sp0_5[5]?).getD 0), vI ((sp0_5[6]?).getD 0), vI ((sp0_5[7]?).getD 0), vI sp0_13, vI sp0_14] 71 (0, 0)), Own.of (.slice Ap0_0 lp0_0.length cp0_0) 41 lp0_0, Own.of (.slice Ap0_1 lp0_1.length cp0_1) 3 lp0_1, Own.of (.slice Ap0_2 lp0_2.length cp0_2) 3 lp0_2, Own.of (.slice Ap0_3 lp0_3.length cp0_3) 56 lp0_3, Own.of (.slice Ap0_4 lp0_4.length cp0_4) 3 lp0_4, Own.blk b1 (.cells #[vI 0, vI 0, vI 0] 41 (0, 0)), Own.all LT] := hS8.unpack [Own.blk bp0 (.cells #[(.slice Ap0_0 lp0_0.length cp0_0), (.slice Ap0_1 lp0_1.length cp0_1), (.slice Ap0_2 lp0_2.length cp0_2), (.slice Ap0_3 lp0_3.length cp0_3), (.slice Ap0_4 lp0_4.length cp0_4), vI ((sp0_5[0]?).getD 0), vI ((sp0_5[1]?).getD 0), vI ((sp0_5[2]?).getD 0), vI ((sp0_5[3]?).getD 0), vI ((sp0_5[4]?).getD 0), vI ((sp0_5[5]?).getD 0), vI ((sp0_5[6]?).getD 0), vI ((sp0_5[7]?).getD 0), vI sp0_13, vI sp0_14] 71 (0, 0)), Own.of (.slice Ap0_0 lp0_0.length cp0_0) 41 lp0_0, Own.of (.slice Ap0_1 lp0_1.length cp0_1) 3 lp0_1, Own.of (.slice Ap0_2 lp0_2.length cp0_2) 3 lp0_2, Own.of (.slice Ap0_3 lp0_3.length cp0_3) 56 lp0_3, Own.of (.slice Ap0_4 lp0_4.length cp0_4) 3 lp0_4]
 refine gn hK3 ?_
 by_cases hc1 : (mach_Machine_Done.f lp0_0 lp0_1 lp0_2 lp0_3 lp0_4 sp0_5 sp0_13 sp0_14) = true
 ·rw [if_pos hc1] at h
  refine wk 6 (mach_Machine_Done.f lp0_0 lp0_1 lp0_2 lp0_3 lp0_4 sp0_5 sp0_13 sp0_14) true hc1 ?_
  refine we_true (by kernel_rfl) ?_
  refine ws fun K4 hK4 => ?_
  refine wr [(0, 0), (1, 2), (2, 0)] ?_
  refine gb0 [0] [(7, .agg #[vI 0, vI 0, vI 0])] ?_
  have hS11 := hS10.bring 6 rfl
  refine gs b1 0 #[vI 0, vI 0, vI 0] 41 [vI 0, vI 0, vI 0] hS11 fun w3 hS12 => ?_
  have hS13 : St w0 w3 [Own.blk b1 (.cells #[vI 0, vI 0, vI 0] 41 (0, 0)), Own.blk bp0 (.cells #[(.slice Ap0_0 lp0_0.length cp0_0), (.slice Ap0_1 lp0_1.length cp0_1), (.slice Ap0_2 lp0_2.length cp0_2), (.slice Ap0_3 lp0_3.length cp0_3), (.slice Ap0_4 lp0_4.length cp0_4), vI ((sp0_5[0]?).getD 0), vI ((sp0_5[1]?).getD 0), vI ((sp0_5[2]?).getD 0), vI ((sp0_5[3]?).getD 0), vI ((sp0_5[4]?).getD 0), vI ((sp0_5[5]?).getD 0), vI ((sp0_5[6]?).getD 0), vI ((sp0_5[7]?).getD 0), vI sp0_13, vI sp0_14] 71 (0, 0)), Own.of (.slice Ap0_0 lp0_0.length cp0_0) 41 lp0_0, Own.of (.slice Ap0_1 lp0_1.length cp0_1) 3 lp0_1, Own.of (.slice Ap0_2 lp0_2.length cp0_2) 3 lp0_2, Own.of (.slice Ap0_3 lp0_3.length cp0_3) 56 lp0_3, Own.of (.slice Ap0_4 lp0_4.length cp0_4) 3 lp0_4, Own.all LT] := hS12
  refine gb0 [2] [(3, .bool false)] ?_
  refine gn hK4 ?_
  have hS14 := hS13.bring 7 rfl
  have hS15 := hS14.bring 7 rfl
  have hS16 := hS15.bring 7 rfl
  have hS17 := hS16.bring 7 rfl
  have hS18 := hS17.bring 7 rfl
  have hS19 := hS18.bring 7 rfl
  have hS20 := hS19.bring 7 rfl
  have hS21 := hS20.takeN 7
  obtain rfl := si h
  exact we_ret (pr [.cell 2 41, .tmp 3] [.agg #[vI 0, vI 0, vI 0], .bool false] [.loaded ⟨b1, 0, none⟩ (vI 0), .loaded ⟨b1, 1, none⟩ (vI 0), .loaded ⟨b1, 2, none⟩ (vI 0)] ⟨hS13.c 0, hS13.c 0, hS13.c 0, trivial⟩ ⟨(.slice Ap0_2 lp0_2.length cp0_2), (.slice Ap0_3 lp0_3.length cp0_3), (.slice Ap0_4 lp0_4.length cp0_4), rfl, hS21⟩)
 ·rw [if_neg hc1] at h
  refine wk 6 (mach_Machine_Done.f lp0_0 lp0_1 lp0_2 lp0_3 lp0_4 sp0_5 sp0_13 sp0_14) false (Bool.eq_false_iff.2 hc1) ?_
  refine we_false (by kernel_rfl) ?_
  refine we_skip fun a hF => hK2 _ _ ?_ a hF
  refine ws fun K5 hK5 => ?_
  refine we_draws (by kernel_rfl) [(0, 0), (1, 0), (2, 0), (3, 0), (4, 0), (5, 0), (6, 0), (7, 0), (8, 0), (9, 0), (10, 1), (11, 2)] (by kernel_rfl) ?_
  have hS22 := hS10.drew
  refine gb [0, 1, 2, 3, 4, 5, 6, 7] [(15, vI sp0_13), (14, pP bp0 13), (13, pP bp0 0), (12, pP bp0 0), (11, (.slice Ap0_0 lp0_0.length cp0_0)), (10, pP bp0 0), (9, pP bp0 0), (8, pP bp0 0)] [.loaded ⟨bp0, 0, none⟩ ((.slice Ap0_0 lp0_0.length cp0_0)), .loaded ⟨bp0, 13, none⟩ (vI sp0_13)] ⟨hS22.c 0, hS22.c 0, trivial⟩ ?_
  by_cases hc2 : 0 ≤ sp0_13
  ·rw [if_pos hc2] at h
   rcases hx2 : lp0_0[(sp0_13).toNat]? with _ | e1
   ·rw [hx2] at h; cases h
   rw [hx2] at h
   simp only [] at h
   refine gi 16 0 22 41 3 lp0_0.length cp0_0 (.tmp 11) (.tmp 15) Ap0_0 .i64 sp0_13 ((sp0_13).toNat) ((hS22.rdAt 1 rfl).eqSome (pos_of_get hx2)) (Int.toNat_of_nonneg hc2).symm (lt_of_get hx2) ?_
   refine gb [9] [(17, .agg #[vI e1.Op, vI e1.A, vI e1.B])] [.loaded ⟨blkOf Ap0_0, offOf Ap0_0 + ((sp0_13).toNat) * 3, none⟩ (vI e1.Op), .loaded ⟨blkOf Ap0_0, offOf Ap0_0 + ((sp0_13).toNat) * 3 + 1, none⟩ (vI e1.A), .loaded ⟨blkOf Ap0_0, offOf Ap0_0 + ((sp0_13).toNat) * 3 + 2, none⟩ (vI e1.B)] ⟨RdL.cell (j := 0) (hS22.rdAt 1 rfl) hx2 rfl, RdL.cell (j := 1) (hS22.rdAt 1 rfl) hx2 rfl, RdL.cell (j := 2) (hS22.rdAt 1 rfl) hx2 rfl, trivial⟩ ?_
   refine gw (some 4) (.cells #[vI 0, vI 0, vI 0] 41) (fun b => pP b 0) hS22 fun b2 w4 hx3 hS23 => ?_
   refine gs b2 0 #[vI 0, vI 0, vI 0] 41 [vI e1.Op, vI e1.A, vI e1.B] hS23 fun w5 hS24 => ?_
   have hS25 : St w0 w5 [Own.blk b2 (.cells #[vI e1.Op, vI e1.A, vI e1.B] 41 (0, 0)), Own.blk bp0 (.cells #[(.slice Ap0_0 lp0_0.length cp0_0), (.slice Ap0_1 lp0_1.length cp0_1), (.slice Ap0_2 lp0_2.length cp0_2), (.slice Ap0_3 lp0_3.length cp0_3), (.slice Ap0_4 lp0_4.length cp0_4), vI ((sp0_5[0]?).getD 0), vI ((sp0_5[1]?).getD 0), vI ((sp0_5[2]?).getD 0), vI ((sp0_5[3]?).getD 0), vI ((sp0_5[4]?).getD 0), vI ((sp0_5[5]?).getD 0), vI ((sp0_5[6]?).getD 0), vI ((sp0_5[7]?).getD 0), vI sp0_13, vI sp0_14] 71 (0, 0)), Own.of (.slice Ap0_0 lp0_0.length cp0_0) 41 lp0_0, Own.of (.slice Ap0_1 lp0_1.length cp0_1) 3 lp0_1, Own.of (.slice Ap0_2 lp0_2.length cp0_2) 3 lp0_2, Own.of (.slice Ap0_3 lp0_3.length cp0_3) 56 lp0_3, Own.of (.slice Ap0_4 lp0_4.length cp0_4) 3 lp0_4, Own.blk b1 (.cells #[vI 0, vI 0, vI 0] 41 (0, 0)), Own.all LT] := hS24
   refine gn hK5 ?_
   refine ws fun K6 hK6 => ?_
   rcases hq4 : mach_Machine_Tick.p0 lp0_0 lp0_1 lp0_2 lp0_3 lp0_4 sp0_5 sp0_13 sp0_14 e1 with _ | (z2 | rr1)
   ·rw [hq4] at h; cases h
   ·rw [hq4] at h
    simp only [] at h
    refine we_keep (e' := [(0, pP bp0 0), (2, pP b1 0), (3, .bool false), (4, pP b2 0), (5, pP bp0 0), (6, .bool false), (8, pP bp0 0), (9, pP bp0 0), (10, pP bp0 0), (11, (.slice Ap0_0 lp0_0.length cp0_0)), (12, pP bp0 0), (13, pP bp0 0), (14, pP bp0 13), (15, vI sp0_13), (16, .pointer (some ⟨blkOf Ap0_0, offOf Ap0_0 + (sp0_13).toNat * 3, none⟩)), (17, .agg #[vI e1.Op, vI e1.A, vI e1.B])]) ea (mach_Machine_Tick_p0 0 w0 bp0 lp0_0 Ap0_0 cp0_0 lp0_1 Ap0_1 cp0_1 lp0_2 Ap0_2 cp0_2 lp0_3 Ap0_3 cp0_3 lp0_4 Ap0_4 cp0_4 sp0_5 sp0_13 sp0_14 LT b1 hc1 hc2 e1 hx2 b2 _ hq4 _ hS25 _ ?_)
    rintro _ a w9 ⟨rfl, hS58, hF⟩
    replace hS58 : St w0 w9 [Own.blk b2 (.cells #[vI e1.Op, vI e1.A, vI e1.B] 41 (0, 0)), Own.blk bp0 (.cells #[(.slice Ap0_0 lp0_0.length cp0_0), (.slice Ap0_1 lp0_1.length cp0_1), (.slice Ap0_2 lp0_2.length cp0_2), (.slice Ap0_3 lp0_3.length cp0_3), (.slice Ap0_4 lp0_4.length cp0_4), vI ((sp0_5[0]?).getD 0), vI ((sp0_5[1]?).getD 0), vI ((sp0_5[2]?).getD 0), vI ((sp0_5[3]?).getD 0), vI ((sp0_5[4]?).getD 0), vI ((sp0_5[5]?).getD 0), vI ((sp0_5[6]?).getD 0), vI ((sp0_5[7]?).getD 0), vI sp0_13, vI z2] 71 (0, 0)), Own.blk b1 (.cells #[vI 0, vI 0, vI 0] 41 (0, 0)), Own.of (.slice Ap0_0 lp0_0.length cp0_0) 41 lp0_0, Own.of (.slice Ap0_1 lp0_1.length cp0_1) 3 lp0_1, Own.of (.slice Ap0_2 lp0_2.length cp0_2) 3 lp0_2, Own.of (.slice Ap0_3 lp0_3.length cp0_3) 56 lp0_3, Own.of (.slice Ap0_4 lp0_4.length cp0_4) 3 lp0_4, Own.all LT] := hS58
    refine hK6 [(0, pP bp0 0), (2, pP b1 0), (4, pP b2 0)] w9 ?_ a hF
    refine ws fun K8 hK8 => ?_
    refine wr [(0, 0), (1, 0), (2, 0), (3, 0), (4, 0), (5, 0), (6, 0), (7, 2)] ?_
    refine gb [0, 1, 2, 3, 4, 5, 6] [(37, pP bp0 14), (36, pP bp0 0), (35, vI (IntKind.i64.wrap (z2 - 1))), (34, vI z2), (33, pP bp0 14), (32, pP bp0 0), (31, pP bp0 0)] [.loaded ⟨bp0, 14, none⟩ (vI z2)] ⟨hS58.c 1, trivial⟩ ?_
    have hS59 := hS58.bring 1 rfl
    refine gs bp0 14 #[(.slice Ap0_0 lp0_0.length cp0_0), (.slice Ap0_1 lp0_1.length cp0_1), (.slice Ap0_2 lp0_2.length cp0_2), (.slice Ap0_3 lp0_3.length cp0_3), (.slice Ap0_4 lp0_4.length cp0_4), vI ((sp0_5[0]?).getD 0), vI ((sp0_5[1]?).getD 0), vI ((sp0_5[2]?).getD 0), vI ((sp0_5[3]?).getD 0), vI ((sp0_5[4]?).getD 0), vI ((sp0_5[5]?).getD 0), vI ((sp0_5[6]?).getD 0), vI ((sp0_5[7]?).getD 0), vI sp0_13, vI z2] 71 [vI (IntKind.i64.wrap (z2 - 1))] hS59 fun w10 hS60 => ?_
    have hS61 : St w0 w10 [Own.blk bp0 (.cells #[(.slice Ap0_0 lp0_0.length cp0_0), (.slice Ap0_1 lp0_1.length cp0_1), (.slice Ap0_2 lp0_2.length cp0_2), (.slice Ap0_3 lp0_3.length cp0_3), (.slice Ap0_4 lp0_4.length cp0_4), vI ((sp0_5[0]?).getD 0), vI ((sp0_5[1]?).getD 0), vI ((sp0_5[2]?).getD 0), vI ((sp0_5[3]?).getD 0), vI ((sp0_5[4]?).getD 0), vI ((sp0_5[5]?).getD 0), vI ((sp0_5[6]?).getD 0), vI ((sp0_5[7]?).getD 0), vI sp0_13, vI (IntKind.i64.wrap (z2 - 1))] 71 (0, 0)), Own.blk b2 (.cells #[vI e1.Op, vI e1.A, vI e1.B] 41 (0, 0)), Own.blk b1 (.cells #[vI 0, vI 0, vI 0] 41 (0, 0)), Own.of (.slice Ap0_0 lp0_0.length cp0_0) 41 lp0_0, Own.of (.slice Ap0_1 lp0_1.length cp0_1) 3 lp0_1, Own.of (.slice Ap0_2 lp0_2.length cp0_2) 3 lp0_2, Own.of (.slice Ap0_3 lp0_3.length cp0_3) 56 lp0_3, Own.of (.slice Ap0_4 lp0_4.length cp0_4) 3 lp0_4, Own.all LT] := hS60
    refine gn hK8 ?_
    refine ws fun K9 hK9 => ?_
    refine ws fun K10 hK10 => ?_
    refine wr [(0, 0), (1, 0), (2, 0), (3, 0), (4, 0)] ?_
    refine gb [0, 1, 2, 3, 4] [(42, .bool (decide ((IntKind.i64.wrap (z2 - 1)) > 0))), (41, vI (IntKind.i64.wrap (z2 - 1))), (40, pP bp0 14), (39, pP bp0 0), (38, pP bp0 0)] [.loaded ⟨bp0, 14, none⟩ (vI (IntKind.i64.wrap (z2 - 1)))] ⟨hS61.c 0, trivial⟩ ?_
    refine gn hK10 ?_
    by_cases hc4 : (IntKind.i64.wrap (z2 - 1)) > 0
    ·rw [if_pos hc4] at h
     refine wk 42 (decide ((IntKind.i64.wrap (z2 - 1)) > 0)) true (decide_eq_true hc4) ?_
     refine we_true (by kernel_rfl) ?_
     refine ws fun K11 hK11 => ?_
     refine wr [(0, 0), (1, 2), (2, 0)] ?_
     refine gb [0] [(43, .agg #[vI e1.Op, vI e1.A, vI e1.B])] [.loaded ⟨b2, 0, none⟩ (vI e1.Op), .loaded ⟨b2, 1, none⟩ (vI e1.A), .loaded ⟨b2, 2, none⟩ (vI e1.B)] ⟨hS61.c 1, hS61.c 1, hS61.c 1, trivial⟩ ?_
     have hS62 := hS61.bring 2 rfl
     refine gs b1 0 #[vI 0, vI 0, vI 0] 41 [vI e1.Op, vI e1.A, vI e1.B] hS62 fun w11 hS63 => ?_
     have hS64 : St w0 w11 [Own.blk b1 (.cells #[vI e1.Op, vI e1.A, vI e1.B] 41 (0, 0)), Own.blk bp0 (.cells #[(.slice Ap0_0 lp0_0.length cp0_0), (.slice Ap0_1 lp0_1.length cp0_1), (.slice Ap0_2 lp0_2.length cp0_2), (.slice Ap0_3 lp0_3.length cp0_3), (.slice Ap0_4 lp0_4.length cp0_4), vI ((sp0_5[0]?).getD 0), vI ((sp0_5[1]?).getD 0), vI ((sp0_5[2]?).getD 0), vI ((sp0_5[3]?).getD 0), vI ((sp0_5[4]?).getD 0), vI ((sp0_5[5]?).getD 0), vI ((sp0_5[6]?).getD 0), vI ((sp0_5[7]?).getD 0), vI sp0_13, vI (IntKind.i64.wrap (z2 - 1))] 71 (0, 0)), Own.blk b2 (.cells #[vI e1.Op, vI e1.A, vI e1.B] 41 (0, 0)), Own.of (.slice Ap0_0 lp0_0.length cp0_0) 41 lp0_0, Own.of (.slice Ap0_1 lp0_1.length cp0_1) 3 lp0_1, Own.of (.slice Ap0_2 lp0_2.length cp0_2) 3 lp0_2, Own.of (.slice Ap0_3 lp0_3.length cp0_3) 56 lp0_3, Own.of (.slice Ap0_4 lp0_4.length cp0_4) 3 lp0_4, Own.all LT] := hS63
     refine gb0 [2] [(3, .bool false)] ?_
     refine gn hK11 ?_
     have hS65 := hS64.bring 8 rfl
     have hS66 := hS65.bring 8 rfl
     have hS67 := hS66.bring 8 rfl
     have hS68 := hS67.bring 8 rfl
     have hS69 := hS68.bring 8 rfl
     have hS70 := hS69.bring 8 rfl
     have hS71 := hS70.bring 7 rfl
     have hS72 := hS71.takeN 7
     obtain rfl := si h
     exact we_ret (pr [.cell 2 41, .tmp 3] [.agg #[vI e1.Op, vI e1.A, vI e1.B], .bool false] [.loaded ⟨b1, 0, none⟩ (vI e1.Op), .loaded ⟨b1, 1, none⟩ (vI e1.A), .loaded ⟨b1, 2, none⟩ (vI e1.B)] ⟨hS64.c 0, hS64.c 0, hS64.c 0, trivial⟩ ⟨(.slice Ap0_2 lp0_2.length cp0_2), (.slice Ap0_3 lp0_3.length cp0_3), (.slice Ap0_4 lp0_4.length cp0_4), rfl, hS72⟩)
    ·rw [if_neg hc4] at h
     refine wk 42 (decide ((IntKind.i64.wrap (z2 - 1)) > 0)) false (decide_eq_false hc4) ?_
     refine we_false (by kernel_rfl) ?_
     refine we_skip fun a hF => hK9 _ _ ?_ a hF
     refine ws fun K12 hK12 => ?_
     refine wr [(0, 0), (1, 0), (2, 0), (3, 2), (4, 0), (5, 0), (6, 2)] ?_
     refine gb [0, 1, 2] [(46, .agg #[vI e1.Op, vI e1.A, vI e1.B]), (45, pP bp0 0), (44, pP bp0 0)] [.loaded ⟨b2, 0, none⟩ (vI e1.Op), .loaded ⟨b2, 1, none⟩ (vI e1.A), .loaded ⟨b2, 2, none⟩ (vI e1.B)] ⟨hS61.c 1, hS61.c 1, hS61.c 1, trivial⟩ ?_
     rcases hq5 : mach_Machine_do.f lp0_0 lp0_1 lp0_2 lp0_3 lp0_4 sp0_5 sp0_13 (IntKind.i64.wrap (z2 - 1)) e1 with _ | r2
     ·rw [hq5] at h; cases h
     rw [hq5] at h
     simp only [] at h
     have hS73 := hS61.bring 7 rfl
     have hS74 := hS73.bring 7 rfl
     have hS75 := hS74.bring 7 rfl
     have hS76 := hS75.bring 7 rfl
     have hS77 := hS76.bring 7 rfl
     have hS78 := hS77.bring 5 rfl
     have hS80 : St w0 w10 [Own.blk bp0 (.cells #[(.slice Ap0_0 lp0_0.length cp0_0), (.slice Ap0_1 lp0_1.length cp0_1), (.slice Ap0_2 lp0_2.length cp0_2), (.slice Ap0_3 lp0_3.length cp0_3), (.slice Ap0_4 lp0_4.length cp0_4), vI ((sp0_5[0]?).getD 0), vI ((sp0_5[1]?).getD 0), vI ((sp0_5[2]?).getD 0), vI ((sp0_5[3]?).getD 0), vI ((sp0_5[4]?).getD 0), vI ((sp0_5[5]?).getD 0), vI ((sp0_5[6]?).getD 0), vI ((sp0_5[7]?).getD 0), vI sp0_13, vI (IntKind.i64.wrap (z2 - 1))] 71 (0, 0)), Own.of (.slice Ap0_0 lp0_0.length cp0_0) 41 lp0_0, Own.of (.slice Ap0_1 lp0_1.length cp0_1) 3 lp0_1, Own.of (.slice Ap0_2 lp0_2.length cp0_2) 3 lp0_2, Own.of (.slice Ap0_3 lp0_3.length cp0_3) 56 lp0_3, Own.of (.slice Ap0_4 lp0_4.length cp0_4) 3 lp0_4, Own.all [Own.blk b2 (.cells #[vI e1.Op, vI e1.A, vI e1.B] 41 (0, 0)), Own.blk b1 (.cells #[vI 0, vI 0, vI 0] 41 (0, 0)), Own.all LT]] := hS78.packN 6
     refine ge_call2 (m := 0) (d := some 47) (f := 46) (args := #[pP bp0 0, .agg #[vI e1.Op, vI e1.A, vI e1.B]]) (by kernel_rfl) (mach_Machine_do_ok bp0 lp0_0 Ap0_0 cp0_0 lp0_1 Ap0_1 cp0_1 lp0_2 Ap0_2 cp0_2 lp0_3 Ap0_3 cp0_3 lp0_4 Ap0_4 cp0_4 sp0_5 sp0_13 (IntKind.i64.wrap (z2 - 1)) e1 _ _ _ hS80 _ hq5) ?_
     rintro _ w12 ⟨v1, v2, v3, rfl, hS79⟩
     refine ⟨_, rfl, ?_⟩
     have hS81 : St w0 w12 [Own.blk bp0 (.cells #[(.slice Ap0_0 lp0_0.length cp0_0), (.slice Ap0_1 lp0_1.length cp0_1), v1, v2, v3, vI ((r2.2.2.2.2[0]?).getD 0), vI ((r2.2.2.2.2[1]?).getD 0), vI ((r2.2.2.2.2[2]?).getD 0), vI ((r2.2.2.2.2[3]?).getD 0), vI ((r2.2.2.2.2[4]?).getD 0), vI ((r2.2.2.2.2[5]?).getD 0), vI ((r2.2.2.2.2[6]?).getD 0), vI ((r2.2.2.2.2[7]?).getD 0), vI sp0_13, vI (IntKind.i64.wrap (z2 - 1))] 71 (0, 0)), Own.of (.slice Ap0_0 lp0_0.length cp0_0) 41 lp0_0, Own.of (.slice Ap0_1 lp0_1.length cp0_1) 3 lp0_1, Own.of v1 3 r2.2.1, Own.of v2 56 r2.2.2.1, Own.of v3 3 r2.2.2.2.1, Own.blk b2 (.cells #[vI e1.Op, vI e1.A, vI e1.B] 41 (0, 0)), Own.blk b1 (.cells #[vI 0, vI 0, vI 0] 41 (0, 0)), Own.all LT] := hS79.unpack [Own.blk bp0 (.cells #[(.slice Ap0_0 lp0_0.length cp0_0), (.slice Ap0_1 lp0_1.length cp0_1), v1, v2, v3, vI ((r2.2.2.2.2[0]?).getD 0), vI ((r2.2.2.2.2[1]?).getD 0), vI ((r2.2.2.2.2[2]?).getD 0), vI ((r2.2.2.2.2[3]?).getD 0), vI ((r2.2.2.2.2[4]?).getD 0), vI ((r2.2.2.2.2[5]?).getD 0), vI ((r2.2.2.2.2[6]?).getD 0), vI ((r2.2.2.2.2[7]?).getD 0), vI sp0_13, vI (IntKind.i64.wrap (z2 - 1))] 71 (0, 0)), Own.of (.slice Ap0_0 lp0_0.length cp0_0) 41 lp0_0, Own.of (.slice Ap0_1 lp0_1.length cp0_1) 3 lp0_1, Own.of v1 3 r2.2.1, Own.of v2 56 r2.2.2.1, Own.of v3 3 r2.2.2.2.1]
     refine gb0 [4, 5] [(49, pP bp0 13), (48, pP bp0 0)] ?_
     refine gs bp0 13 #[(.slice Ap0_0 lp0_0.length cp0_0), (.slice Ap0_1 lp0_1.length cp0_1), v1, v2, v3, vI ((r2.2.2.2.2[0]?).getD 0), vI ((r2.2.2.2.2[1]?).getD 0), vI ((r2.2.2.2.2[2]?).getD 0), vI ((r2.2.2.2.2[3]?).getD 0), vI ((r2.2.2.2.2[4]?).getD 0), vI ((r2.2.2.2.2[5]?).getD 0), vI ((r2.2.2.2.2[6]?).getD 0), vI ((r2.2.2.2.2[7]?).getD 0), vI sp0_13, vI (IntKind.i64.wrap (z2 - 1))] 71 [vI r2.1] hS81 fun w13 hS82 => ?_
     have hS83 : St w0 w13 [Own.blk bp0 (.cells #[(.slice Ap0_0 lp0_0.length cp0_0), (.slice Ap0_1 lp0_1.length cp0_1), v1, v2, v3, vI ((r2.2.2.2.2[0]?).getD 0), vI ((r2.2.2.2.2[1]?).getD 0), vI ((r2.2.2.2.2[2]?).getD 0), vI ((r2.2.2.2.2[3]?).getD 0), vI ((r2.2.2.2.2[4]?).getD 0), vI ((r2.2.2.2.2[5]?).getD 0), vI ((r2.2.2.2.2[6]?).getD 0), vI ((r2.2.2.2.2[7]?).getD 0), vI r2.1, vI (IntKind.i64.wrap (z2 - 1))] 71 (0, 0)), Own.of (.slice Ap0_0 lp0_0.length cp0_0) 41 lp0_0, Own.of (.slice Ap0_1 lp0_1.length cp0_1) 3 lp0_1, Own.of v1 3 r2.2.1, Own.of v2 56 r2.2.2.1, Own.of v3 3 r2.2.2.2.1, Own.blk b2 (.cells #[vI e1.Op, vI e1.A, vI e1.B] 41 (0, 0)), Own.blk b1 (.cells #[vI 0, vI 0, vI 0] 41 (0, 0)), Own.all LT] := hS82
     refine gn hK12 ?_
     refine ws fun K13 hK13 => ?_
     refine wr [(0, 0), (1, 2), (2, 0)] ?_
     refine gb [0] [(50, .agg #[vI e1.Op, vI e1.A, vI e1.B])] [.loaded ⟨b2, 0, none⟩ (vI e1.Op), .loaded ⟨b2, 1, none⟩ (vI e1.A), .loaded ⟨b2, 2, none⟩ (vI e1.B)] ⟨hS83.c 6, hS83.c 6, hS83.c 6, trivial⟩ ?_
     have hS84 := hS83.bring 7 rfl
     refine gs b1 0 #[vI 0, vI 0, vI 0] 41 [vI e1.Op, vI e1.A, vI e1.B] hS84 fun w14 hS85 => ?_
     have hS86 : St w0 w14 [Own.blk b1 (.cells #[vI e1.Op, vI e1.A, vI e1.B] 41 (0, 0)), Own.blk bp0 (.cells #[(.slice Ap0_0 lp0_0.length cp0_0), (.slice Ap0_1 lp0_1.length cp0_1), v1, v2, v3, vI ((r2.2.2.2.2[0]?).getD 0), vI ((r2.2.2.2.2[1]?).getD 0), vI ((r2.2.2.2.2[2]?).getD 0), vI ((r2.2.2.2.2[3]?).getD 0), vI ((r2.2.2.2.2[4]?).getD 0), vI ((r2.2.2.2.2[5]?).getD 0), vI ((r2.2.2.2.2[6]?).getD 0), vI ((r2.2.2.2.2[7]?).getD 0), vI r2.1, vI (IntKind.i64.wrap (z2 - 1))] 71 (0, 0)), Own.of (.slice Ap0_0 lp0_0.length cp0_0) 41 lp0_0, Own.of (.slice Ap0_1 lp0_1.length cp0_1) 3 lp0_1, Own.of v1 3 r2.2.1, Own.of v2 56 r2.2.2.1, Own.of v3 3 r2.2.2.2.1, Own.blk b2 (.cells #[vI e1.Op, vI e1.A, vI e1.B] 41 (0, 0)), Own.all LT] := hS85
     refine gb0 [2] [(3, .bool true)] ?_
     refine gn hK13 ?_
     have hS87 := hS86.bring 8 rfl
     have hS88 := hS87.bring 7 rfl
     have hS89 := hS88.bring 7 rfl
     have hS90 := hS89.bring 7 rfl
     have hS91 := hS90.bring 7 rfl
     have hS92 := hS91.bring 7 rfl
     have hS93 := hS92.bring 7 rfl
     have hS94 := hS93.takeN 7
     obtain rfl := si h
     exact we_ret (pr [.cell 2 41, .tmp 3] [.agg #[vI e1.Op, vI e1.A, vI e1.B], .bool true] [.loaded ⟨b1, 0, none⟩ (vI e1.Op), .loaded ⟨b1, 1, none⟩ (vI e1.A), .loaded ⟨b1, 2, none⟩ (vI e1.B)] ⟨hS86.c 0, hS86.c 0, hS86.c 0, trivial⟩ ⟨v1, v2, v3, rfl, hS94⟩)
   ·rw [hq4] at h
    simp only [] at h
    refine we_keep (e' := [(0, pP bp0 0), (2, pP b1 0), (3, .bool false), (4, pP b2 0), (5, pP bp0 0), (6, .bool false), (8, pP bp0 0), (9, pP bp0 0), (10, pP bp0 0), (11, (.slice Ap0_0 lp0_0.length cp0_0)), (12, pP bp0 0), (13, pP bp0 0), (14, pP bp0 13), (15, vI sp0_13), (16, .pointer (some ⟨blkOf Ap0_0, offOf Ap0_0 + (sp0_13).toNat * 3, none⟩)), (17, .agg #[vI e1.Op, vI e1.A, vI e1.B])]) ea (mach_Machine_Tick_p0 0 w0 bp0 lp0_0 Ap0_0 cp0_0 lp0_1 Ap0_1 cp0_1 lp0_2 Ap0_2 cp0_2 lp0_3 Ap0_3 cp0_3 lp0_4 Ap0_4 cp0_4 sp0_5 sp0_13 sp0_14 LT b1 hc1 hc2 e1 hx2 b2 _ hq4 _ hS25 _ ?_)
    rintro _ a w1 ⟨_, rfl, hb⟩
    obtain rfl := si h
    exact hb
  ·rw [if_neg hc2] at h
   cases h

structure SEnded where
 Vars : List Int
 Puts : List SPut
 Steps : Int

/-! punctual/mach.Run -/
abbrev mach_Run.Post (w0 : World) (r : SEnded × SFault) (e : Ending) (w : World) : Prop := ∃ (v0 : Value) (v1 : Value), e = .returned (.tuple #[.agg #[v0, v1, vI r.1.Steps], .agg #[vI r.2.Code, vI r.2.At]]) ∧ St w0 w [Own.of v0 3 r.1.Vars, Own.of v1 56 r.1.Puts]
def mach_Run.r0 : Int × Int → Option ((Int × Int) ⊕ (Int ⊕ (SEnded × SFault)))
 | (z1, z2) =>
  none
def mach_Run.p1 (r1 : (Option PMachine) × SFault) : Option ((Int × Int × (List Int) × (List SPut) × Int) ⊕ (SEnded × SFault)) :=
  some (.inl (r1.2.Code, r1.2.At, ([] : List Int), ([] : List SPut), 0))
def mach_Run.p3 (z13 : Int) : Option ((Int × Int × (List Int) × (List SPut) × Int) ⊕ (SEnded × SFault)) :=
  some (.inl (11, z13, ([] : List Int), ([] : List SPut), 0))
def mach_Run.r2 (px1 : PMachine) : Int × Int × (List Int) × (List SPut) × (List Int) × (List Int) × Int × Int → Option ((Int × Int × (List Int) × (List SPut) × (List Int) × (List Int) × Int × Int) ⊕ ((Int × (List Int) × (List SPut) × (List Int) × (List Int) × Int × Int) ⊕ (SEnded × SFault)))
 | (z11, z12, m5, m6, m7, m8, z13, z14) =>
  if (mach_Machine_Done.f px1.m_image px1.m_in_ m5 m6 m7 m8 z13 z14) = true then
   some (.inr (.inl (z11, m5, m6, m7, m8, z13, z14)))
  else
   if z12 = 20000 then
    match mach_Run.p3 z13 with
    | none => none
    | some (.inl (z21, z22, m15, m16, z23)) =>
     some (.inr (.inr ((⟨m15, m16, z23⟩ : SEnded), (⟨z21, z22⟩ : SFault))))
    | some (.inr rr3) =>
     some (.inr (.inr rr3))
   else
    match mach_Machine_Tick.f px1.m_image px1.m_in_ m5 m6 m7 m8 z13 z14 with
    | none => none
    | some r2 =>
     if r2.2.1 = true then
      some (.inl (IntKind.i64.wrap (z11 + 1), IntKind.i64.wrap (z12 + 1), r2.2.2.1, r2.2.2.2.1, r2.2.2.2.2.1, r2.2.2.2.2.2.1, r2.2.2.2.2.2.2.1, r2.2.2.2.2.2.2.2))
     else
      some (.inl (IntKind.i64.wrap (z11 + 1), z12, r2.2.2.1, r2.2.2.2.1, r2.2.2.2.2.1, r2.2.2.2.2.2.1, r2.2.2.2.2.2.2.1, r2.2.2.2.2.2.2.2))
def mach_Run.p4 (r1 : (Option PMachine) × SFault) : Option ((Int × Int × (List Int) × (List SPut) × Int) ⊕ (SEnded × SFault)) :=
  some (.inl (r1.2.Code, r1.2.At, ([] : List Int), ([] : List SPut), 0))
def mach_Run.f (K : Nat) (l0 : List SIns) (l1 : List Int) (l2 : List Int) : Option (SEnded × SFault) :=
 match mach_New.f K l0 l1 l2 with
 | none => none
 | some r1 =>
  match r1.1 with
  | none =>
   if r1.2.Code = 0 then
    match iter (mach_Run.r0) K (0, 0) with
    | none => none
    | some (.inl z4) =>
     none
    | some (.inr rr1) =>
     some rr1
   else
    match mach_Run.p1 r1 with
    | none => none
    | some (.inl (z8, z9, m3, m4, z10)) =>
     some ((⟨m3, m4, z10⟩ : SEnded), (⟨z8, z9⟩ : SFault))
    | some (.inr rr2) =>
     some rr2
  | some px1 =>
   if r1.2.Code = 0 then
    match iter (mach_Run.r2 px1) K (0, 0, px1.m_vars, px1.m_puts, px1.m_stack, px1.m_count, px1.m_at_, px1.m_left) with
    | none => none
    | some (.inl (z24, m17, m18, m19, m20, z25, z26)) =>
     some ((⟨m17, m18, z24⟩ : SEnded), (⟨0, 0⟩ : SFault))
    | some (.inr rr4) =>
     some rr4
   else
    match mach_Run.p4 r1 with
    | none => none
    | some (.inl (z30, z31, m23, m24, z32)) =>
     some ((⟨m23, m24, z32⟩ : SEnded), (⟨z30, z31⟩ : SFault))
    | some (.inr rr5) =>
     some rr5
abbrev mach_Run.A0 (w0 : World) (b1 : Nat) (b2 : Nat) : (Int × Int) → Act → World → Prop := fun (s : Int × Int) a w => St w0 w [Own.blk b2 (.cells #[vI 0, vI 0] 29 (0, 0)), Own.blk b1 (.cells #[.slice none 0 0, .slice none 0 0, vI 0] 36 (0, 0))] ∧ Frm 58 a [(6, pP b1 0), (7, pP b2 0), (8, .pointer none), (10, vI s.1), (11, vI s.2)]
abbrev mach_Run.B0 (w0 : World) (b1 : Nat) (b2 : Nat) : (Int ⊕ (SEnded × SFault)) → Exit → Act → World → Prop := Exits 0 (fun (s : Int) a w => St w0 w [Own.blk b2 (.cells #[vI 0, vI 0] 29 (0, 0)), Own.blk b1 (.cells #[.slice none 0 0, .slice none 0 0, vI 0] 36 (0, 0))] ∧ Frm 58 a [(6, pP b1 0), (7, pP b2 0), (8, .pointer none), (10, vI s)]) (Rets Try.prog Try.f10 (mach_Run.Post w0))
theorem mach_Run_r0 (K : Nat) (w0 : World) (l0 : List SIns) (A0 : Option Addr) (c0 : Nat) (l1 : List Int) (A1 : Option Addr) (c1 : Nat) (l2 : List Int) (A2 : Option Addr) (c2 : Nat) (hR0 : RdL w0 A0 l0) (hL0 : l0.length ≤ c0) (hR1 : RdL w0 A1 l1) (hL1 : l1.length ≤ c1) (hR2 : RdL w0 A2 l2) (hL2 : l2.length ≤ c2) (b1 : Nat) (b2 : Nat) (r1 : (Option PMachine) × SFault) (b3 : Nat) (hc1 : r1.2.Code = 0) (s : Int × Int) (o : (Int × Int) ⊕ (Int ⊕ (SEnded × SFault))) (h : mach_Run.r0 s = some o) (a : Act) (w : World) (hA : mach_Run.A0 w0 b1 b2 s a w) (Q : Exit → Act → World → Prop) (hQ : ∀ x a w, Outs (mach_Run.A0 w0 b1 b2) (mach_Run.B0 w0 b1 b2) o x a w → Q x a w) : (subF Try.f10 [1, 1, 1, 1, 0, 1, 0, 0]).wp Try.prog Q a w := by
 obtain ⟨z1, z2⟩ := s
 obtain ⟨hS, hF⟩ := hA
 replace hS : St w0 w [Own.blk b2 (.cells #[vI 0, vI 0] 29 (0, 0)), Own.blk b1 (.cells #[.slice none 0 0, .slice none 0 0, vI 0] 36 (0, 0))] := hS
 simp only [mach_Run.r0] at h
 refine (?_ : WE Try.prog 58 (subF Try.f10 [1, 1, 1, 1, 0, 1, 0, 0]) Q [(6, pP b1 0), (7, pP b2 0), (8, .pointer none), (10, vI z1), (11, vI z2)] w) a hF
 clear hF a
 refine ws fun K8 hK8 => ?_
 refine ws fun K9 hK9 => ?_
 refine wr [(0, 0), (1, 2), (2, 0)] ?_
 refine gb0 [0] [(26, .pointer none)] ?_
 cases h
abbrev mach_Run.A1 (w0 : World) (b1 : Nat) (b2 : Nat) : (Int × Int × (List Int) × (List SPut) × Int) → Act → World → Prop := fun (s : Int × Int × (List Int) × (List SPut) × Int) a w => ∃ (v1 : Value) (v2 : Value), St w0 w [Own.blk b2 (.cells #[vI s.1, vI s.2.1] 29 (0, 0)), Own.blk b1 (.cells #[v1, v2, vI s.2.2.2.2] 36 (0, 0)), Own.of v1 3 s.2.2.1, Own.of v2 56 s.2.2.2.1] ∧ Frm 58 a [(6, pP b1 0), (7, pP b2 0)]
abbrev mach_Run.B1 (w0 : World) : (SEnded × SFault) → Exit → Act → World → Prop := Rets Try.prog Try.f10 (mach_Run.Post w0)
theorem mach_Run_p1 (K : Nat) (w0 : World) (l0 : List SIns) (A0 : Option Addr) (c0 : Nat) (l1 : List Int) (A1 : Option Addr) (c1 : Nat) (l2 : List Int) (A2 : Option Addr) (c2 : Nat) (hR0 : RdL w0 A0 l0) (hL0 : l0.length ≤ c0) (hR1 : RdL w0 A1 l1) (hL1 : l1.length ≤ c1) (hR2 : RdL w0 A2 l2) (hL2 : l2.length ≤ c2) (b1 : Nat) (b2 : Nat) (r1 : (Option PMachine) × SFault) (b3 : Nat) (hc1 : ¬ (r1.2.Code = 0)) (o : (Int × Int × (List Int) × (List SPut) × Int) ⊕ (SEnded × SFault)) (h : mach_Run.p1 r1 = some o) (w : World) (hS : St w0 w [Own.blk b3 (.cells #[vI r1.2.Code, vI r1.2.At] 29 (0, 0)), Own.blk b2 (.cells #[vI 0, vI 0] 29 (0, 0)), Own.blk b1 (.cells #[.slice none 0 0, .slice none 0 0, vI 0] 36 (0, 0))]) (Q : Exit → Act → World → Prop) (hQ : ∀ x a w, Outs (mach_Run.A1 w0 b1 b2) (mach_Run.B1 w0) o x a w → Q x a w) : WE Try.prog 58 (subF Try.f10 [1, 1, 0, 1, 0, 0]) Q [(0, .slice A0 l0.length c0), (1, .slice A1 l1.length c1), (2, .slice A2 l2.length c2), (6, pP b1 0), (7, pP b2 0), (8, .pointer none), (9, pP b3 0), (14, .tuple #[.pointer none, .agg #[vI r1.2.Code, vI r1.2.At]]), (15, .slice A0 l0.length c0), (16, .slice A1 l1.length c1), (17, .slice A2 l2.length c2), (18, .tuple #[.pointer none, .agg #[vI r1.2.Code, vI r1.2.At]]), (19, .pointer none), (20, .agg #[vI r1.2.Code, vI r1.2.At]), (21, pP b3 0), (22, vI r1.2.Code), (23, .bool true)] w := by
 simp only [mach_Run.p1] at h
 refine we_orders3 (by kernel_rfl) [(1, [⟨b3, 0, none⟩, ⟨b3, 1, none⟩], [], [])] (.vals [0] (.vals [1] (.alt 2 2 (.alt 3 2 .fin .nomore) .nomore))) (by kernel_rfl) (by kernel_rfl) ?_
 have hS13 := hS.drew
 refine go3_batch [0] (ans := []) (vs := [(24, .agg #[.slice none 0 0, .slice none 0 0, vI 0])]) (l := []) (by kernel_rfl) trivial mem_nil3 ?_
 refine go3_batch [1] (ans := [.val (vI r1.2.Code), .val (vI r1.2.At)]) (vs := [(25, .agg #[vI r1.2.Code, vI r1.2.At])]) (l := [.loaded ⟨b3, 0, none⟩ (vI r1.2.Code), .loaded ⟨b3, 1, none⟩ (vI r1.2.At)]) (by kernel_rfl) ⟨hS13.c 0, hS13.c 0, trivial⟩ (mem_one3 (by kernel_rfl)) ?_
 refine go_alt3 (fun KK hKK => ?_) ?_
 ·have hS14 := hS13.bring 2 rfl
  refine gs b1 0 #[.slice none 0 0, .slice none 0 0, vI 0] 36 [.slice none 0 0, .slice none 0 0, vI 0] hS14 fun w7 hS15 => ?_
  have hS16 : St w0 w7 [Own.blk b1 (.cells #[.slice none 0 0, .slice none 0 0, vI 0] 36 (0, 0)), Own.blk b3 (.cells #[vI r1.2.Code, vI r1.2.At] 29 (0, 0)), Own.blk b2 (.cells #[vI 0, vI 0] 29 (0, 0))] := hS15
  refine ge_nil fun a hF => hKK _ _ (RS.of2 (l := [.loaded ⟨b3, 0, none⟩ (vI r1.2.Code), .loaded ⟨b3, 1, none⟩ (vI r1.2.At)]) (by kernel_rfl) ⟨hS13.c 0, hS13.c 0, trivial⟩ ⟨hS16.c 1, hS16.c 1, trivial⟩) ?_ a hF
  refine go_alt3 (fun KK hKK => ?_) ?_
  ·have hS17 := hS16.bring 2 rfl
   refine gs b2 0 #[vI 0, vI 0] 29 [vI r1.2.Code, vI r1.2.At] hS17 fun w8 hS18 => ?_
   have hS19 : St w0 w8 [Own.blk b2 (.cells #[vI r1.2.Code, vI r1.2.At] 29 (0, 0)), Own.blk b1 (.cells #[.slice none 0 0, .slice none 0 0, vI 0] 36 (0, 0)), Own.blk b3 (.cells #[vI r1.2.Code, vI r1.2.At] 29 (0, 0))] := hS18
   refine ge_nil fun a hF => hKK _ _ (RS.of2 (l := []) (by kernel_rfl) trivial trivial) ?_ a hF
   have hS20 := hS19.nil (α := Int) 3
   have hS21 := hS20.nil (α := SPut) 56
   have hS22 := hS21.bring 1 rfl
   have hS23 := hS22.bring 3 rfl
   have hS24 := hS23.bring 3 rfl
   have hS25 := hS24.takeN 4
   obtain rfl := si h
   exact go_fin3 fun a hF => hQ _ _ _ (Outs.again ⟨(.slice none 0 0), (.slice none 0 0), hS25, hF.weaken ea⟩)
  exact go_nomore3
 exact go_nomore3
abbrev mach_Run.A3 (w0 : World) (b1 : Nat) (b2 : Nat) : (Int × Int × (List Int) × (List SPut) × Int) → Act → World → Prop := fun (s : Int × Int × (List Int) × (List SPut) × Int) a w => ∃ (v11 : Value) (v12 : Value), St w0 w [Own.blk b2 (.cells #[vI s.1, vI s.2.1] 29 (0, 0)), Own.blk b1 (.cells #[v11, v12, vI s.2.2.2.2] 36 (0, 0)), Own.of v11 3 s.2.2.1, Own.of v12 56 s.2.2.2.1] ∧ Frm 58 a [(6, pP b1 0), (7, pP b2 0)]
abbrev mach_Run.B3 (w0 : World) : (SEnded × SFault) → Exit → Act → World → Prop := Rets Try.prog Try.f10 (mach_Run.Post w0)
theorem mach_Run_p3 (K : Nat) (w0 : World) (l0 : List SIns) (A0 : Option Addr) (c0 : Nat) (l1 : List Int) (A1 : Option Addr) (c1 : Nat) (l2 : List Int) (A2 : Option Addr) (c2 : Nat) (hR0 : RdL w0 A0 l0) (hL0 : l0.length ≤ c0) (hR1 : RdL w0 A1 l1) (hL1 : l1.length ≤ c1) (hR2 : RdL w0 A2 l2) (hL2 : l2.length ≤ c2) (b1 : Nat) (b2 : Nat) (r1 : (Option PMachine) × SFault) (px1 : PMachine) (pb1 : Nat) (b4 : Nat) (hc2 : r1.2.Code = 0) (Z1 : Option Addr) (cz1 : Nat) (Z2 : Option Addr) (cz2 : Nat) (Z3 : Option Addr) (cz3 : Nat) (Z4 : Option Addr) (cz4 : Nat) (Z5 : Option Addr) (cz5 : Nat) (z11 : Int) (z12 : Int) (m5 : List Int) (m6 : List SPut) (m7 : List Int) (m8 : List Int) (z13 : Int) (z14 : Int) (Z6 : Option Addr) (cz6 : Nat) (Z7 : Option Addr) (cz7 : Nat) (Z8 : Option Addr) (cz8 : Nat) (hc3 : ¬ ((mach_Machine_Done.f px1.m_image px1.m_in_ m5 m6 m7 m8 z13 z14) = true)) (hc4 : z12 = 20000) (o : (Int × Int × (List Int) × (List SPut) × Int) ⊕ (SEnded × SFault)) (h : mach_Run.p3 z13 = some o) (w : World) (hS : St w0 w [Own.blk pb1 (.cells #[(.slice Z1 px1.m_image.length cz1), (.slice Z2 px1.m_in_.length cz2), (.slice Z6 m5.length cz6), (.slice Z7 m6.length cz7), (.slice Z8 m7.length cz8), vI ((m8[0]?).getD 0), vI ((m8[1]?).getD 0), vI ((m8[2]?).getD 0), vI ((m8[3]?).getD 0), vI ((m8[4]?).getD 0), vI ((m8[5]?).getD 0), vI ((m8[6]?).getD 0), vI ((m8[7]?).getD 0), vI z13, vI z14] 71 (0, 0)), Own.of (.slice Z1 px1.m_image.length cz1) 41 px1.m_image, Own.of (.slice Z2 px1.m_in_.length cz2) 3 px1.m_in_, Own.of (.slice Z6 m5.length cz6) 3 m5, Own.of (.slice Z7 m6.length cz7) 56 m6, Own.of (.slice Z8 m7.length cz8) 3 m7, Own.blk b2 (.cells #[vI 0, vI 0] 29 (0, 0)), Own.blk b1 (.cells #[.slice none 0 0, .slice none 0 0, vI 0] 36 (0, 0))]) (Q : Exit → Act → World → Prop) (hQ : ∀ x a w, Outs (mach_Run.A3 w0 b1 b2) (mach_Run.B3 w0) o x a w → Q x a w) : WE Try.prog 58 (subF Try.f10 [1, 1, 1, 1, 0, 1, 0, 0, 1, 0, 0, 1, 0, 0]) Q [(6, pP b1 0), (7, pP b2 0), (8, pP pb1 0), (10, vI z11), (11, vI z12), (26, pP pb1 0), (27, .bool (mach_Machine_Done.f px1.m_image px1.m_in_ m5 m6 m7 m8 z13 z14)), (28, .bool true), (29, vI z12), (30, .bool true)] w := by
 simp only [mach_Run.p3] at h
 refine we_orders3 (by kernel_rfl) [(4, [⟨pb1, 13, none⟩], [], [])] (.vals [0] (.vals [1] (.vals [2] (.vals [3] (.vals [4] (.vals [5] (.alt 6 2 (.alt 7 2 .fin .nomore) .nomore))))))) (by kernel_rfl) (by kernel_rfl) ?_
 have hS61 := hS.drew
 refine go3_batch [0, 1, 2, 3] (ans := []) (vs := [(34, pP pb1 13), (33, pP pb1 0), (32, pP pb1 0), (31, .agg #[.slice none 0 0, .slice none 0 0, vI 0])]) (l := []) (by kernel_rfl) trivial mem_nil3 ?_
 refine go3_batch [4] (ans := [.val (vI z13)]) (vs := [(35, vI z13)]) (l := [.loaded ⟨pb1, 13, none⟩ (vI z13)]) (by kernel_rfl) ⟨hS61.c 0, trivial⟩ (mem_one3 (by kernel_rfl)) ?_
 refine go3_batch [5] (ans := []) (vs := [(36, .agg #[vI 11, vI z13])]) (l := []) (by kernel_rfl) trivial mem_nil3 ?_
 refine go_alt3 (fun KK hKK => ?_) ?_
 ·have hS62 := hS61.bring 7 rfl
  refine gs b1 0 #[.slice none 0 0, .slice none 0 0, vI 0] 36 [.slice none 0 0, .slice none 0 0, vI 0] hS62 fun w13 hS63 => ?_
  have hS64 : St w0 w13 [Own.blk b1 (.cells #[.slice none 0 0, .slice none 0 0, vI 0] 36 (0, 0)), Own.blk pb1 (.cells #[(.slice Z1 px1.m_image.length cz1), (.slice Z2 px1.m_in_.length cz2), (.slice Z6 m5.length cz6), (.slice Z7 m6.length cz7), (.slice Z8 m7.length cz8), vI ((m8[0]?).getD 0), vI ((m8[1]?).getD 0), vI ((m8[2]?).getD 0), vI ((m8[3]?).getD 0), vI ((m8[4]?).getD 0), vI ((m8[5]?).getD 0), vI ((m8[6]?).getD 0), vI ((m8[7]?).getD 0), vI z13, vI z14] 71 (0, 0)), Own.of (.slice Z1 px1.m_image.length cz1) 41 px1.m_image, Own.of (.slice Z2 px1.m_in_.length cz2) 3 px1.m_in_, Own.of (.slice Z6 m5.length cz6) 3 m5, Own.of (.slice Z7 m6.length cz7) 56 m6, Own.of (.slice Z8 m7.length cz8) 3 m7, Own.blk b2 (.cells #[vI 0, vI 0] 29 (0, 0))] := hS63
  refine ge_nil fun a hF => hKK _ _ (RS.of2 (l := [.loaded ⟨pb1, 13, none⟩ (vI z13)]) (by kernel_rfl) ⟨hS61.c 0, trivial⟩ ⟨hS64.c 1, trivial⟩) ?_ a hF
  refine go_alt3 (fun KK hKK => ?_) ?_
  ·have hS65 := hS64.bring 7 rfl
   refine gs b2 0 #[vI 0, vI 0] 29 [vI 11, vI z13] hS65 fun w14 hS66 => ?_
   have hS67 : St w0 w14 [Own.blk b2 (.cells #[vI 11, vI z13] 29 (0, 0)), Own.blk b1 (.cells #[.slice none 0 0, .slice none 0 0, vI 0] 36 (0, 0)), Own.blk pb1 (.cells #[(.slice Z1 px1.m_image.length cz1), (.slice Z2 px1.m_in_.length cz2), (.slice Z6 m5.length cz6), (.slice Z7 m6.length cz7), (.slice Z8 m7.length cz8), vI ((m8[0]?).getD 0), vI ((m8[1]?).getD 0), vI ((m8[2]?).getD 0), vI ((m8[3]?).getD 0), vI ((m8[4]?).getD 0), vI ((m8[5]?).getD 0), vI ((m8[6]?).getD 0), vI ((m8[7]?).getD 0), vI z13, vI z14] 71 (0, 0)), Own.of (.slice Z1 px1.m_image.length cz1) 41 px1.m_image, Own.of (.slice Z2 px1.m_in_.length cz2) 3 px1.m_in_, Own.of (.slice Z6 m5.length cz6) 3 m5, Own.of (.slice Z7 m6.length cz7) 56 m6, Own.of (.slice Z8 m7.length cz8) 3 m7] := hS66
   refine ge_nil fun a hF => hKK _ _ (RS.of2 (l := []) (by kernel_rfl) trivial trivial) ?_ a hF
   have hS68 := hS67.nil (α := Int) 3
   have hS69 := hS68.nil (α := SPut) 56
   have hS70 := hS69.bring 1 rfl
   have hS71 := hS70.bring 3 rfl
   have hS72 := hS71.bring 3 rfl
   have hS73 := hS72.takeN 4
   obtain rfl := si h
   exact go_fin3 fun a hF => hQ _ _ _ (Outs.again ⟨(.slice none 0 0), (.slice none 0 0), hS73, hF.weaken ea⟩)
  exact go_nomore3
 exact go_nomore3
abbrev mach_Run.A2 (w0 : World) (b1 : Nat) (b2 : Nat) (px1 : PMachine) (pb1 : Nat) (Z1 : Option Addr) (cz1 : Nat) (Z2 : Option Addr) (cz2 : Nat) : (Int × Int × (List Int) × (List SPut) × (List Int) × (List Int) × Int × Int) → Act → World → Prop := fun (s : Int × Int × (List Int) × (List SPut) × (List Int) × (List Int) × Int × Int) a w => ∃ (v5 : Value) (v6 : Value) (v7 : Value), St w0 w [Own.blk pb1 (.cells #[(.slice Z1 px1.m_image.length cz1), (.slice Z2 px1.m_in_.length cz2), v5, v6, v7, vI ((s.2.2.2.2.2.1[0]?).getD 0), vI ((s.2.2.2.2.2.1[1]?).getD 0), vI ((s.2.2.2.2.2.1[2]?).getD 0), vI ((s.2.2.2.2.2.1[3]?).getD 0), vI ((s.2.2.2.2.2.1[4]?).getD 0), vI ((s.2.2.2.2.2.1[5]?).getD 0), vI ((s.2.2.2.2.2.1[6]?).getD 0), vI ((s.2.2.2.2.2.1[7]?).getD 0), vI s.2.2.2.2.2.2.1, vI s.2.2.2.2.2.2.2] 71 (0, 0)), Own.blk b2 (.cells #[vI 0, vI 0] 29 (0, 0)), Own.blk b1 (.cells #[.slice none 0 0, .slice none 0 0, vI 0] 36 (0, 0)), Own.of (.slice Z1 px1.m_image.length cz1) 41 px1.m_image, Own.of (.slice Z2 px1.m_in_.length cz2) 3 px1.m_in_, Own.of v5 3 s.2.2.1, Own.of v6 56 s.2.2.2.1, Own.of v7 3 s.2.2.2.2.1] ∧ Frm 58 a [(6, pP b1 0), (7, pP b2 0), (8, pP pb1 0), (10, vI s.1), (11, vI s.2.1)]
abbrev mach_Run.B2 (w0 : World) (b1 : Nat) (b2 : Nat) (px1 : PMachine) (pb1 : Nat) (Z1 : Option Addr) (cz1 : Nat) (Z2 : Option Addr) (cz2 : Nat) : ((Int × (List Int) × (List SPut) × (List Int) × (List Int) × Int × Int) ⊕ (SEnded × SFault)) → Exit → Act → World → Prop := Exits 0 (fun (s : Int × (List Int) × (List SPut) × (List Int) × (List Int) × Int × Int) a w => ∃ (v8 : Value) (v9 : Value) (v10 : Value), St w0 w [Own.blk pb1 (.cells #[(.slice Z1 px1.m_image.length cz1), (.slice Z2 px1.m_in_.length cz2), v8, v9, v10, vI ((s.2.2.2.2.1[0]?).getD 0), vI ((s.2.2.2.2.1[1]?).getD 0), vI ((s.2.2.2.2.1[2]?).getD 0), vI ((s.2.2.2.2.1[3]?).getD 0), vI ((s.2.2.2.2.1[4]?).getD 0), vI ((s.2.2.2.2.1[5]?).getD 0), vI ((s.2.2.2.2.1[6]?).getD 0), vI ((s.2.2.2.2.1[7]?).getD 0), vI s.2.2.2.2.2.1, vI s.2.2.2.2.2.2] 71 (0, 0)), Own.blk b2 (.cells #[vI 0, vI 0] 29 (0, 0)), Own.blk b1 (.cells #[.slice none 0 0, .slice none 0 0, vI 0] 36 (0, 0)), Own.of (.slice Z1 px1.m_image.length cz1) 41 px1.m_image, Own.of (.slice Z2 px1.m_in_.length cz2) 3 px1.m_in_, Own.of v8 3 s.2.1, Own.of v9 56 s.2.2.1, Own.of v10 3 s.2.2.2.1] ∧ Frm 58 a [(6, pP b1 0), (7, pP b2 0), (8, pP pb1 0), (10, vI s.1)]) (Rets Try.prog Try.f10 (mach_Run.Post w0))
theorem mach_Run_r2 (K : Nat) (w0 : World) (l0 : List SIns) (A0 : Option Addr) (c0 : Nat) (l1 : List Int) (A1 : Option Addr) (c1 : Nat) (l2 : List Int) (A2 : Option Addr) (c2 : Nat) (hR0 : RdL w0 A0 l0) (hL0 : l0.length ≤ c0) (hR1 : RdL w0 A1 l1) (hL1 : l1.length ≤ c1) (hR2 : RdL w0 A2 l2) (hL2 : l2.length ≤ c2) (b1 : Nat) (b2 : Nat) (r1 : (Option PMachine) × SFault) (px1 : PMachine) (pb1 : Nat) (b4 : Nat) (hc2 : r1.2.Code = 0) (Z1 : Option Addr) (cz1 : Nat) (Z2 : Option Addr) (cz2 : Nat) (Z3 : Option Addr) (cz3 : Nat) (Z4 : Option Addr) (cz4 : Nat) (Z5 : Option Addr) (cz5 : Nat) (s : Int × Int × (List Int) × (List SPut) × (List Int) × (List Int) × Int × Int) (o : (Int × Int × (List Int) × (List SPut) × (List Int) × (List Int) × Int × Int) ⊕ ((Int × (List Int) × (List SPut) × (List Int) × (List Int) × Int × Int) ⊕ (SEnded × SFault))) (h : mach_Run.r2 px1 s = some o) (a : Act) (w : World) (hA : mach_Run.A2 w0 b1 b2 px1 pb1 Z1 cz1 Z2 cz2 s a w) (Q : Exit → Act → World → Prop) (hQ : ∀ x a w, Outs (mach_Run.A2 w0 b1 b2 px1 pb1 Z1 cz1 Z2 cz2) (mach_Run.B2 w0 b1 b2 px1 pb1 Z1 cz1 Z2 cz2) o x a w → Q x a w) : (subF Try.f10 [1, 1, 1, 1, 0, 1, 0, 0]).wp Try.prog Q a w := by
 obtain ⟨z11, z12, m5, m6, m7, m8, z13, z14⟩ := s
 obtain ⟨v5, v6, v7, hS, hF⟩ := hA
 replace hS : St w0 w [Own.blk pb1 (.cells #[(.slice Z1 px1.m_image.length cz1), (.slice Z2 px1.m_in_.length cz2), v5, v6, v7, vI ((m8[0]?).getD 0), vI ((m8[1]?).getD 0), vI ((m8[2]?).getD 0), vI ((m8[3]?).getD 0), vI ((m8[4]?).getD 0), vI ((m8[5]?).getD 0), vI ((m8[6]?).getD 0), vI ((m8[7]?).getD 0), vI z13, vI z14] 71 (0, 0)), Own.blk b2 (.cells #[vI 0, vI 0] 29 (0, 0)), Own.blk b1 (.cells #[.slice none 0 0, .slice none 0 0, vI 0] 36 (0, 0)), Own.of (.slice Z1 px1.m_image.length cz1) 41 px1.m_image, Own.of (.slice Z2 px1.m_in_.length cz2) 3 px1.m_in_, Own.of v5 3 m5, Own.of v6 56 m6, Own.of v7 3 m7] := hS
 simp only [mach_Run.r2] at h
 refine (?_ : WE Try.prog 58 (subF Try.f10 [1, 1, 1, 1, 0, 1, 0, 0]) Q [(6, pP b1 0), (7, pP b2 0), (8, pP pb1 0), (10, vI z11), (11, vI z12)] w) a hF
 clear hF a
 refine ws fun K17 hK17 => ?_
 refine ws fun K18 hK18 => ?_
 refine wr [(0, 0), (1, 2), (2, 0)] ?_
 refine gb0 [0] [(26, pP pb1 0)] ?_
 obtain ⟨Z6, cz6, rfl⟩ := hS.open 5 rfl
 obtain ⟨Z7, cz7, rfl⟩ := hS.open 6 rfl
 obtain ⟨Z8, cz8, rfl⟩ := hS.open 7 rfl
 have hS44 := hS.bring 7 rfl
 have hS45 := hS44.bring 7 rfl
 have hS46 := hS45.bring 7 rfl
 have hS47 := hS46.bring 7 rfl
 have hS48 := hS47.bring 7 rfl
 have hS49 := hS48.bring 5 rfl
 have hS51 : St w0 w [Own.blk pb1 (.cells #[(.slice Z1 px1.m_image.length cz1), (.slice Z2 px1.m_in_.length cz2), (.slice Z6 m5.length cz6), (.slice Z7 m6.length cz7), (.slice Z8 m7.length cz8), vI ((m8[0]?).getD 0), vI ((m8[1]?).getD 0), vI ((m8[2]?).getD 0), vI ((m8[3]?).getD 0), vI ((m8[4]?).getD 0), vI ((m8[5]?).getD 0), vI ((m8[6]?).getD 0), vI ((m8[7]?).getD 0), vI z13, vI z14] 71 (0, 0)), Own.of (.slice Z1 px1.m_image.length cz1) 41 px1.m_image, Own.of (.slice Z2 px1.m_in_.length cz2) 3 px1.m_in_, Own.of (.slice Z6 m5.length cz6) 3 m5, Own.of (.slice Z7 m6.length cz7) 56 m6, Own.of (.slice Z8 m7.length cz8) 3 m7, Own.all [Own.blk b2 (.cells #[vI 0, vI 0] 29 (0, 0)), Own.blk b1 (.cells #[.slice none 0 0, .slice none 0 0, vI 0] 36 (0, 0))]] := hS49.packN 6
 refine ge_call2 (m := 0) (d := some 27) (f := 26) (args := #[pP pb1 0]) (by kernel_rfl) (mach_Machine_Done_ok pb1 px1.m_image Z1 cz1 px1.m_in_ Z2 cz2 m5 Z6 cz6 m6 Z7 cz7 m7 Z8 cz8 m8 z13 z14 _ _ _ hS51 _ rfl) ?_
 rintro _ w12 ⟨rfl, hS50⟩
 refine ⟨_, rfl, ?_⟩
 have hS52 : St w0 w12 [Own.blk pb1 (.cells #[(.slice Z1 px1.m_image.length cz1), (.slice Z2 px1.m_in_.length cz2), (.slice Z6 m5.length cz6), (.slice Z7 m6.length cz7), (.slice Z8 m7.length cz8), vI ((m8[0]?).getD 0), vI ((m8[1]?).getD 0), vI ((m8[2]?).getD 0), vI ((m8[3]?).getD 0), vI ((m8[4]?).getD 0), vI ((m8[5]?).getD 0), vI ((m8[6]?).getD 0), vI ((m8[7]?).getD 0), vI z13, vI z14] 71 (0, 0)), Own.of (.slice Z1 px1.m_image.length cz1) 41 px1.m_image, Own.of (.slice Z2 px1.m_in_.length cz2) 3 px1.m_in_, Own.of (.slice Z6 m5.length cz6) 3 m5, Own.of (.slice Z7 m6.length cz7) 56 m6, Own.of (.slice Z8 m7.length cz8) 3 m7, Own.blk b2 (.cells #[vI 0, vI 0] 29 (0, 0)), Own.blk b1 (.cells #[.slice none 0 0, .slice none 0 0, vI 0] 36 (0, 0))] := hS50.unpack [Own.blk pb1 (.cells #[(.slice Z1 px1.m_image.length cz1), (.slice Z2 px1.m_in_.length cz2), (.slice Z6 m5.length cz6), (.slice Z7 m6.length cz7), (.slice Z8 m7.length cz8), vI ((m8[0]?).getD 0), vI ((m8[1]?).getD 0), vI ((m8[2]?).getD 0), vI ((m8[3]?).getD 0), vI ((m8[4]?).getD 0), vI ((m8[5]?).getD 0), vI ((m8[6]?).getD 0), vI ((m8[7]?).getD 0), vI z13, vI z14] 71 (0, 0)), Own.of (.slice Z1 px1.m_image.length cz1) 41 px1.m_image, Own.of (.slice Z2 px1.m_in_.length cz2) 3 px1.m_in_, Own.of (.slice Z6 m5.length cz6) 3 m5, Own.of (.slice Z7 m6.length cz7) 56 m6, Own.of (.slice Z8 m7.length cz8) 3 m7]
 refine gb0 [2] [(28, .bool (!(mach_Machine_Done.f px1.m_image px1.m_in_ m5 m6 m7 m8 z13 z14)))] ?_
 refine gn hK18 ?_
 by_cases hc3 : (mach_Machine_Done.f px1.m_image px1.m_in_ m5 m6 m7 m8 z13 z14) = true
 ·rw [if_pos hc3] at h
  refine wk 28 (!(mach_Machine_Done.f px1.m_image px1.m_in_ m5 m6 m7 m8 z13 z14)) false (congrArg (fun z => !z) hc3) ?_
  refine we_false (by kernel_rfl) ?_
  have hS53 := hS52.bring 5 rfl
  have hS54 := hS53.bring 5 rfl
  have hS55 := hS54.bring 5 rfl
  have hS56 := hS55.bring 5 rfl
  have hS57 := hS56.bring 5 rfl
  have hS58 := hS57.bring 7 rfl
  have hS59 := hS58.bring 7 rfl
  have hS60 := hS59.bring 7 rfl
  obtain rfl := si h
  exact we_exit fun a hF => hQ _ _ _ (Outs.out nofun (Exits.here ⟨(.slice Z6 m5.length cz6), (.slice Z7 m6.length cz7), (.slice Z8 m7.length cz8), hS60, hF.weaken ea⟩))
 ·rw [if_neg hc3] at h
  refine wk 28 (!(mach_Machine_Done.f px1.m_image px1.m_in_ m5 m6 m7 m8 z13 z14)) true (congrArg (fun z => !z) (Bool.eq_false_iff.2 hc3)) ?_
  refine we_true (by kernel_rfl) ?_
  refine we_skip fun a hF => hK17 _ _ ?_ a hF
  refine we_block ?_
  refine ws fun K19 hK19 => ?_
  refine ws fun K20 hK20 => ?_
  refine wr [(0, 0), (1, 0)] ?_
  refine gb0 [0, 1] [(30, .bool (z12 == 20000)), (29, vI z12)] ?_
  refine gn hK20 ?_
  by_cases hc4 : z12 = 20000
  ·rw [if_pos hc4] at h
   refine wk 30 (z12 == 20000) true (beq_iff_eq.2 hc4) ?_
   refine we_true (by kernel_rfl) ?_
   refine ws fun K21 hK21 => ?_
   rcases hq5 : mach_Run.p3 z13 with _ | (⟨z21, z22, m15, m16, z23⟩ | rr3)
   ·rw [hq5] at h; cases h
   ·rw [hq5] at h
    simp only [] at h
    refine we_keep (e' := [(6, pP b1 0), (7, pP b2 0), (8, pP pb1 0), (10, vI z11), (11, vI z12), (26, pP pb1 0), (27, .bool (mach_Machine_Done.f px1.m_image px1.m_in_ m5 m6 m7 m8 z13 z14)), (28, .bool true), (29, vI z12), (30, .bool true)]) ea (mach_Run_p3 K w0 l0 A0 c0 l1 A1 c1 l2 A2 c2 hR0 hL0 hR1 hL1 hR2 hL2 b1 b2 r1 px1 pb1 b4 hc2 Z1 cz1 Z2 cz2 Z3 cz3 Z4 cz4 Z5 cz5 z11 z12 m5 m6 m7 m8 z13 z14 Z6 cz6 Z7 cz7 Z8 cz8 hc3 hc4 _ hq5 _ hS52 _ ?_)
    rintro _ a w15 ⟨rfl, v13, v14, hS74, hF⟩
    replace hS74 : St w0 w15 [Own.blk b2 (.cells #[vI z21, vI z22] 29 (0, 0)), Own.blk b1 (.cells #[v13, v14, vI z23] 36 (0, 0)), Own.of v13 3 m15, Own.of v14 56 m16] := hS74
    refine hK21 [(6, pP b1 0), (7, pP b2 0)] w15 ?_ a hF
    have hS75 := hS74.bring 3 rfl
    have hS76 := hS75.bring 3 rfl
    have hS77 := hS76.takeN 2
    obtain rfl := si h
    exact we_ret fun a hF => hQ _ _ _ (Outs.out nofun (Exits.on ⟨rfl, (pr [.cell 6 36, .cell 7 29] [.agg #[v13, v14, vI z23], .agg #[vI z21, vI z22]] [.loaded ⟨b1, 0, none⟩ (v13), .loaded ⟨b1, 1, none⟩ (v14), .loaded ⟨b1, 2, none⟩ (vI z23), .loaded ⟨b2, 0, none⟩ (vI z21), .loaded ⟨b2, 1, none⟩ (vI z22)] ⟨hS74.c 1, hS74.c 1, hS74.c 1, hS74.c 0, hS74.c 0, trivial⟩ ⟨v13, v14, rfl, hS77⟩) a hF⟩))
   ·rw [hq5] at h
    simp only [] at h
    refine we_keep (e' := [(6, pP b1 0), (7, pP b2 0), (8, pP pb1 0), (10, vI z11), (11, vI z12), (26, pP pb1 0), (27, .bool (mach_Machine_Done.f px1.m_image px1.m_in_ m5 m6 m7 m8 z13 z14)), (28, .bool true), (29, vI z12), (30, .bool true)]) ea (mach_Run_p3 K w0 l0 A0 c0 l1 A1 c1 l2 A2 c2 hR0 hL0 hR1 hL1 hR2 hL2 b1 b2 r1 px1 pb1 b4 hc2 Z1 cz1 Z2 cz2 Z3 cz3 Z4 cz4 Z5 cz5 z11 z12 m5 m6 m7 m8 z13 z14 Z6 cz6 Z7 cz7 Z8 cz8 hc3 hc4 _ hq5 _ hS52 _ ?_)
    rintro _ a w1 ⟨_, rfl, hb⟩
    obtain rfl := si h
    exact hQ _ _ _ (Outs.out nofun (Exits.on ⟨rfl, hb⟩))
  ·rw [if_neg hc4] at h
   refine wk 30 (z12 == 20000) false (beq_eq_false_iff_ne.2 hc4) ?_
   refine we_false (by kernel_rfl) ?_
   refine we_skip fun a hF => hK19 _ _ ?_ a hF
   refine ws fun K22 hK22 => ?_
   refine wr [(0, 0), (1, 0), (2, 0)] ?_
   refine gb0 [0, 1, 2] [(10, vI (IntKind.i64.wrap (z11 + 1))), (38, vI (IntKind.i64.wrap (z11 + 1))), (37, vI z11)] ?_
   refine gn hK22 ?_
   refine ws fun K23 hK23 => ?_
   refine wr [(0, 0), (1, 2), (2, 0), (3, 0), (4, 0), (5, 1), (6, 2), (7, 0)] ?_
   refine gb0 [0] [(40, pP pb1 0)] ?_
   rcases hq6 : mach_Machine_Tick.f px1.m_image px1.m_in_ m5 m6 m7 m8 z13 z14 with _ | r2
   ·rw [hq6] at h; cases h
   rw [hq6] at h
   simp only [] at h
   have hS78 := hS52.bring 5 rfl
   have hS79 := hS78.bring 5 rfl
   have hS80 := hS79.bring 5 rfl
   have hS81 := hS80.bring 5 rfl
   have hS82 := hS81.bring 5 rfl
   have hS83 := hS82.bring 5 rfl
   have hS85 : St w0 w12 [Own.blk pb1 (.cells #[(.slice Z1 px1.m_image.length cz1), (.slice Z2 px1.m_in_.length cz2), (.slice Z6 m5.length cz6), (.slice Z7 m6.length cz7), (.slice Z8 m7.length cz8), vI ((m8[0]?).getD 0), vI ((m8[1]?).getD 0), vI ((m8[2]?).getD 0), vI ((m8[3]?).getD 0), vI ((m8[4]?).getD 0), vI ((m8[5]?).getD 0), vI ((m8[6]?).getD 0), vI ((m8[7]?).getD 0), vI z13, vI z14] 71 (0, 0)), Own.of (.slice Z1 px1.m_image.length cz1) 41 px1.m_image, Own.of (.slice Z2 px1.m_in_.length cz2) 3 px1.m_in_, Own.of (.slice Z6 m5.length cz6) 3 m5, Own.of (.slice Z7 m6.length cz7) 56 m6, Own.of (.slice Z8 m7.length cz8) 3 m7, Own.all [Own.blk b2 (.cells #[vI 0, vI 0] 29 (0, 0)), Own.blk b1 (.cells #[.slice none 0 0, .slice none 0 0, vI 0] 36 (0, 0))]] := hS83.packN 6
   refine ge_call2 (m := 0) (d := some 41) (f := 27) (args := #[pP pb1 0]) (by kernel_rfl) (mach_Machine_Tick_ok pb1 px1.m_image Z1 cz1 px1.m_in_ Z2 cz2 m5 Z6 cz6 m6 Z7 cz7 m7 Z8 cz8 m8 z13 z14 _ _ _ hS85 _ hq6) ?_
   rintro _ w16 ⟨v15, v16, v17, rfl, hS84⟩
   refine ⟨_, rfl, ?_⟩
   have hS86 : St w0 w16 [Own.blk pb1 (.cells #[(.slice Z1 px1.m_image.length cz1), (.slice Z2 px1.m_in_.length cz2), v15, v16, v17, vI ((r2.2.2.2.2.2.1[0]?).getD 0), vI ((r2.2.2.2.2.2.1[1]?).getD 0), vI ((r2.2.2.2.2.2.1[2]?).getD 0), vI ((r2.2.2.2.2.2.1[3]?).getD 0), vI ((r2.2.2.2.2.2.1[4]?).getD 0), vI ((r2.2.2.2.2.2.1[5]?).getD 0), vI ((r2.2.2.2.2.2.1[6]?).getD 0), vI ((r2.2.2.2.2.2.1[7]?).getD 0), vI r2.2.2.2.2.2.2.1, vI r2.2.2.2.2.2.2.2] 71 (0, 0)), Own.of (.slice Z1 px1.m_image.length cz1) 41 px1.m_image, Own.of (.slice Z2 px1.m_in_.length cz2) 3 px1.m_in_, Own.of v15 3 r2.2.2.1, Own.of v16 56 r2.2.2.2.1, Own.of v17 3 r2.2.2.2.2.1, Own.blk b2 (.cells #[vI 0, vI 0] 29 (0, 0)), Own.blk b1 (.cells #[.slice none 0 0, .slice none 0 0, vI 0] 36 (0, 0))] := hS84.unpack [Own.blk pb1 (.cells #[(.slice Z1 px1.m_image.length cz1), (.slice Z2 px1.m_in_.length cz2), v15, v16, v17, vI ((r2.2.2.2.2.2.1[0]?).getD 0), vI ((r2.2.2.2.2.2.1[1]?).getD 0), vI ((r2.2.2.2.2.2.1[2]?).getD 0), vI ((r2.2.2.2.2.2.1[3]?).getD 0), vI ((r2.2.2.2.2.2.1[4]?).getD 0), vI ((r2.2.2.2.2.2.1[5]?).getD 0), vI ((r2.2.2.2.2.2.1[6]?).getD 0), vI ((r2.2.2.2.2.2.1[7]?).getD 0), vI r2.2.2.2.2.2.2.1, vI r2.2.2.2.2.2.2.2] 71 (0, 0)), Own.of (.slice Z1 px1.m_image.length cz1) 41 px1.m_image, Own.of (.slice Z2 px1.m_in_.length cz2) 3 px1.m_in_, Own.of v15 3 r2.2.2.1, Own.of v16 56 r2.2.2.2.1, Own.of v17 3 r2.2.2.2.2.1]
   refine gb0 [2, 3, 4] [(43, .bool r2.2.1), (42, .agg #[vI r2.1.Op, vI r2.1.A, vI r2.1.B]), (39, .tuple #[.agg #[vI r2.1.Op, vI r2.1.A, vI r2.1.B], .bool r2.2.1])] ?_
   refine gw (some 12) (.cells #[vI 0, vI 0, vI 0] 41) (fun b => pP b 0) hS86 fun b5 w17 hx5 hS87 => ?_
   refine gs b5 0 #[vI 0, vI 0, vI 0] 41 [vI r2.1.Op, vI r2.1.A, vI r2.1.B] hS87 fun w18 hS88 => ?_
   have hS89 : St w0 w18 [Own.blk b5 (.cells #[vI r2.1.Op, vI r2.1.A, vI r2.1.B] 41 (0, 0)), Own.blk pb1 (.cells #[(.slice Z1 px1.m_image.length cz1), (.slice Z2 px1.m_in_.length cz2), v15, v16, v17, vI ((r2.2.2.2.2.2.1[0]?).getD 0), vI ((r2.2.2.2.2.2.1[1]?).getD 0), vI ((r2.2.2.2.2.2.1[2]?).getD 0), vI ((r2.2.2.2.2.2.1[3]?).getD 0), vI ((r2.2.2.2.2.2.1[4]?).getD 0), vI ((r2.2.2.2.2.2.1[5]?).getD 0), vI ((r2.2.2.2.2.2.1[6]?).getD 0), vI ((r2.2.2.2.2.2.1[7]?).getD 0), vI r2.2.2.2.2.2.2.1, vI r2.2.2.2.2.2.2.2] 71 (0, 0)), Own.of (.slice Z1 px1.m_image.length cz1) 41 px1.m_image, Own.of (.slice Z2 px1.m_in_.length cz2) 3 px1.m_in_, Own.of v15 3 r2.2.2.1, Own.of v16 56 r2.2.2.2.1, Own.of v17 3 r2.2.2.2.2.1, Own.blk b2 (.cells #[vI 0, vI 0] 29 (0, 0)), Own.blk b1 (.cells #[.slice none 0 0, .slice none 0 0, vI 0] 36 (0, 0))] := hS88
   refine gb0 [7] [(13, .bool r2.2.1)] ?_
   refine gn hK23 ?_
   refine ws fun K24 hK24 => ?_
   refine wr [(0, 0)] ?_
   refine gb0 [0] [(44, .bool r2.2.1)] ?_
   refine gn hK24 ?_
   by_cases hc5 : r2.2.1 = true
   ·rw [if_pos hc5] at h
    refine wk 44 r2.2.1 true hc5 ?_
    refine we_true (by kernel_rfl) ?_
    refine wr [(0, 0), (1, 0), (2, 0)] ?_
    refine gb0 [0, 1, 2] [(11, vI (IntKind.i64.wrap (z12 + 1))), (46, vI (IntKind.i64.wrap (z12 + 1))), (45, vI z12)] ?_
    have hS90 := hS89.bring 6 rfl
    have hS91 := hS90.bring 6 rfl
    have hS92 := hS91.bring 6 rfl
    have hS93 := hS92.bring 6 rfl
    have hS94 := hS93.bring 6 rfl
    have hS95 := hS94.bring 8 rfl
    have hS96 := hS95.bring 8 rfl
    have hS97 := hS96.bring 8 rfl
    have hS98 := hS97.takeN 8
    obtain rfl := si h
    exact ge_nil fun a hF => hQ _ _ _ (Outs.again ⟨v15, v16, v17, hS98, hF.weaken ea⟩)
   ·rw [if_neg hc5] at h
    refine wk 44 r2.2.1 false (Bool.eq_false_iff.2 hc5) ?_
    refine we_false (by kernel_rfl) ?_
    have hS99 := hS89.bring 6 rfl
    have hS100 := hS99.bring 6 rfl
    have hS101 := hS100.bring 6 rfl
    have hS102 := hS101.bring 6 rfl
    have hS103 := hS102.bring 6 rfl
    have hS104 := hS103.bring 8 rfl
    have hS105 := hS104.bring 8 rfl
    have hS106 := hS105.bring 8 rfl
    have hS107 := hS106.takeN 8
    obtain rfl := si h
    exact we_skip fun a hF => hQ _ _ _ (Outs.again ⟨v15, v16, v17, hS107, hF.weaken ea⟩)
abbrev mach_Run.A4 (w0 : World) (b1 : Nat) (b2 : Nat) : (Int × Int × (List Int) × (List SPut) × Int) → Act → World → Prop := fun (s : Int × Int × (List Int) × (List SPut) × Int) a w => ∃ (v21 : Value) (v22 : Value), St w0 w [Own.blk b2 (.cells #[vI s.1, vI s.2.1] 29 (0, 0)), Own.blk b1 (.cells #[v21, v22, vI s.2.2.2.2] 36 (0, 0)), Own.of v21 3 s.2.2.1, Own.of v22 56 s.2.2.2.1] ∧ Frm 58 a [(6, pP b1 0), (7, pP b2 0)]
abbrev mach_Run.B4 (w0 : World) : (SEnded × SFault) → Exit → Act → World → Prop := Rets Try.prog Try.f10 (mach_Run.Post w0)
theorem mach_Run_p4 (K : Nat) (w0 : World) (l0 : List SIns) (A0 : Option Addr) (c0 : Nat) (l1 : List Int) (A1 : Option Addr) (c1 : Nat) (l2 : List Int) (A2 : Option Addr) (c2 : Nat) (hR0 : RdL w0 A0 l0) (hL0 : l0.length ≤ c0) (hR1 : RdL w0 A1 l1) (hL1 : l1.length ≤ c1) (hR2 : RdL w0 A2 l2) (hL2 : l2.length ≤ c2) (b1 : Nat) (b2 : Nat) (r1 : (Option PMachine) × SFault) (px1 : PMachine) (pb1 : Nat) (b4 : Nat) (hc2 : ¬ (r1.2.Code = 0)) (Z11 : Option Addr) (cz11 : Nat) (Z12 : Option Addr) (cz12 : Nat) (Z13 : Option Addr) (cz13 : Nat) (Z14 : Option Addr) (cz14 : Nat) (Z15 : Option Addr) (cz15 : Nat) (o : (Int × Int × (List Int) × (List SPut) × Int) ⊕ (SEnded × SFault)) (h : mach_Run.p4 r1 = some o) (w : World) (hS : St w0 w [Own.blk b4 (.cells #[vI r1.2.Code, vI r1.2.At] 29 (0, 0)), Own.blk pb1 (.cells #[(.slice Z11 px1.m_image.length cz11), (.slice Z12 px1.m_in_.length cz12), (.slice Z13 px1.m_vars.length cz13), (.slice Z14 px1.m_puts.length cz14), (.slice Z15 px1.m_stack.length cz15), vI ((px1.m_count[0]?).getD 0), vI ((px1.m_count[1]?).getD 0), vI ((px1.m_count[2]?).getD 0), vI ((px1.m_count[3]?).getD 0), vI ((px1.m_count[4]?).getD 0), vI ((px1.m_count[5]?).getD 0), vI ((px1.m_count[6]?).getD 0), vI ((px1.m_count[7]?).getD 0), vI px1.m_at_, vI px1.m_left] 71 (0, 0)), Own.of (.slice Z11 px1.m_image.length cz11) 41 px1.m_image, Own.of (.slice Z12 px1.m_in_.length cz12) 3 px1.m_in_, Own.of (.slice Z13 px1.m_vars.length cz13) 3 px1.m_vars, Own.of (.slice Z14 px1.m_puts.length cz14) 56 px1.m_puts, Own.of (.slice Z15 px1.m_stack.length cz15) 3 px1.m_stack, Own.blk b2 (.cells #[vI 0, vI 0] 29 (0, 0)), Own.blk b1 (.cells #[.slice none 0 0, .slice none 0 0, vI 0] 36 (0, 0))]) (Q : Exit → Act → World → Prop) (hQ : ∀ x a w, Outs (mach_Run.A4 w0 b1 b2) (mach_Run.B4 w0) o x a w → Q x a w) : WE Try.prog 58 (subF Try.f10 [1, 1, 0, 1, 0, 0]) Q [(0, .slice A0 l0.length c0), (1, .slice A1 l1.length c1), (2, .slice A2 l2.length c2), (6, pP b1 0), (7, pP b2 0), (8, pP pb1 0), (9, pP b4 0), (14, .tuple #[pP pb1 0, .agg #[vI r1.2.Code, vI r1.2.At]]), (15, .slice A0 l0.length c0), (16, .slice A1 l1.length c1), (17, .slice A2 l2.length c2), (18, .tuple #[pP pb1 0, .agg #[vI r1.2.Code, vI r1.2.At]]), (19, pP pb1 0), (20, .agg #[vI r1.2.Code, vI r1.2.At]), (21, pP b4 0), (22, vI r1.2.Code), (23, .bool true)] w := by
 simp only [mach_Run.p4] at h
 refine we_orders3 (by kernel_rfl) [(1, [⟨b4, 0, none⟩, ⟨b4, 1, none⟩], [], [])] (.vals [0] (.vals [1] (.alt 2 2 (.alt 3 2 .fin .nomore) .nomore))) (by kernel_rfl) (by kernel_rfl) ?_
 have hS119 := hS.drew
 refine go3_batch [0] (ans := []) (vs := [(24, .agg #[.slice none 0 0, .slice none 0 0, vI 0])]) (l := []) (by kernel_rfl) trivial mem_nil3 ?_
 refine go3_batch [1] (ans := [.val (vI r1.2.Code), .val (vI r1.2.At)]) (vs := [(25, .agg #[vI r1.2.Code, vI r1.2.At])]) (l := [.loaded ⟨b4, 0, none⟩ (vI r1.2.Code), .loaded ⟨b4, 1, none⟩ (vI r1.2.At)]) (by kernel_rfl) ⟨hS119.c 0, hS119.c 0, trivial⟩ (mem_one3 (by kernel_rfl)) ?_
 refine go_alt3 (fun KK hKK => ?_) ?_
 ·have hS120 := hS119.bring 8 rfl
  refine gs b1 0 #[.slice none 0 0, .slice none 0 0, vI 0] 36 [.slice none 0 0, .slice none 0 0, vI 0] hS120 fun w22 hS121 => ?_
  have hS122 : St w0 w22 [Own.blk b1 (.cells #[.slice none 0 0, .slice none 0 0, vI 0] 36 (0, 0)), Own.blk b4 (.cells #[vI r1.2.Code, vI r1.2.At] 29 (0, 0)), Own.blk pb1 (.cells #[(.slice Z11 px1.m_image.length cz11), (.slice Z12 px1.m_in_.length cz12), (.slice Z13 px1.m_vars.length cz13), (.slice Z14 px1.m_puts.length cz14), (.slice Z15 px1.m_stack.length cz15), vI ((px1.m_count[0]?).getD 0), vI ((px1.m_count[1]?).getD 0), vI ((px1.m_count[2]?).getD 0), vI ((px1.m_count[3]?).getD 0), vI ((px1.m_count[4]?).getD 0), vI ((px1.m_count[5]?).getD 0), vI ((px1.m_count[6]?).getD 0), vI ((px1.m_count[7]?).getD 0), vI px1.m_at_, vI px1.m_left] 71 (0, 0)), Own.of (.slice Z11 px1.m_image.length cz11) 41 px1.m_image, Own.of (.slice Z12 px1.m_in_.length cz12) 3 px1.m_in_, Own.of (.slice Z13 px1.m_vars.length cz13) 3 px1.m_vars, Own.of (.slice Z14 px1.m_puts.length cz14) 56 px1.m_puts, Own.of (.slice Z15 px1.m_stack.length cz15) 3 px1.m_stack, Own.blk b2 (.cells #[vI 0, vI 0] 29 (0, 0))] := hS121
  refine ge_nil fun a hF => hKK _ _ (RS.of2 (l := [.loaded ⟨b4, 0, none⟩ (vI r1.2.Code), .loaded ⟨b4, 1, none⟩ (vI r1.2.At)]) (by kernel_rfl) ⟨hS119.c 0, hS119.c 0, trivial⟩ ⟨hS122.c 1, hS122.c 1, trivial⟩) ?_ a hF
  refine go_alt3 (fun KK hKK => ?_) ?_
  ·have hS123 := hS122.bring 8 rfl
   refine gs b2 0 #[vI 0, vI 0] 29 [vI r1.2.Code, vI r1.2.At] hS123 fun w23 hS124 => ?_
   have hS125 : St w0 w23 [Own.blk b2 (.cells #[vI r1.2.Code, vI r1.2.At] 29 (0, 0)), Own.blk b1 (.cells #[.slice none 0 0, .slice none 0 0, vI 0] 36 (0, 0)), Own.blk b4 (.cells #[vI r1.2.Code, vI r1.2.At] 29 (0, 0)), Own.blk pb1 (.cells #[(.slice Z11 px1.m_image.length cz11), (.slice Z12 px1.m_in_.length cz12), (.slice Z13 px1.m_vars.length cz13), (.slice Z14 px1.m_puts.length cz14), (.slice Z15 px1.m_stack.length cz15), vI ((px1.m_count[0]?).getD 0), vI ((px1.m_count[1]?).getD 0), vI ((px1.m_count[2]?).getD 0), vI ((px1.m_count[3]?).getD 0), vI ((px1.m_count[4]?).getD 0), vI ((px1.m_count[5]?).getD 0), vI ((px1.m_count[6]?).getD 0), vI ((px1.m_count[7]?).getD 0), vI px1.m_at_, vI px1.m_left] 71 (0, 0)), Own.of (.slice Z11 px1.m_image.length cz11) 41 px1.m_image, Own.of (.slice Z12 px1.m_in_.length cz12) 3 px1.m_in_, Own.of (.slice Z13 px1.m_vars.length cz13) 3 px1.m_vars, Own.of (.slice Z14 px1.m_puts.length cz14) 56 px1.m_puts, Own.of (.slice Z15 px1.m_stack.length cz15) 3 px1.m_stack] := hS124
   refine ge_nil fun a hF => hKK _ _ (RS.of2 (l := []) (by kernel_rfl) trivial trivial) ?_ a hF
   have hS126 := hS125.nil (α := Int) 3
   have hS127 := hS126.nil (α := SPut) 56
   have hS128 := hS127.bring 1 rfl
   have hS129 := hS128.bring 3 rfl
   have hS130 := hS129.bring 3 rfl
   have hS131 := hS130.takeN 4
   obtain rfl := si h
   exact go_fin3 fun a hF => hQ _ _ _ (Outs.again ⟨(.slice none 0 0), (.slice none 0 0), hS131, hF.weaken ea⟩)
  exact go_nomore3
 exact go_nomore3
theorem mach_Run_ok (K : Nat) (l0 : List SIns) (A0 : Option Addr) (c0 : Nat) (l1 : List Int) (A1 : Option Addr) (c1 : Nat) (l2 : List Int) (A2 : Option Addr) (c2 : Nat) (w0 : World) (hR0 : RdL w0 A0 l0) (hL0 : l0.length ≤ c0) (hR1 : RdL w0 A1 l1) (hL1 : l1.length ≤ c1) (hR2 : RdL w0 A2 l2) (hL2 : l2.length ≤ c2) (r : SEnded × SFault) (h : mach_Run.f K l0 l1 l2 = some r) :
  Calls Try.prog 10 #[.slice A0 l0.length c0, .slice A1 l1.length c1, .slice A2 l2.length c2] w0 (mach_Run.Post w0 r) := by
 have hS := St.start w0
 unfold mach_Run.f at h
 refine calls_enter (n := 58) (args := [.slice A0 l0.length c0, .slice A1 l1.length c1, .slice A2 l2.length c2]) (fn := Try.f10) rfl rfl rfl rfl ?_
 show WE _ _ _ _ [(0, .slice A0 l0.length c0), (1, .slice A1 l1.length c1), (2, .slice A2 l2.length c2)] _
 refine ws fun K1 hK1 => ?_
 refine wr [(0, 1), (1, 1)] ?_
 refine gw (some 6) (.cells #[.slice none 0 0, .slice none 0 0, vI 0] 36) (fun b => pP b 0) hS fun b1 w1 hx1 hS1 => ?_
 refine gw (some 7) (.cells #[vI 0, vI 0] 29) (fun b => pP b 0) hS1 fun b2 w2 hx2 hS2 => ?_
 refine gn hK1 ?_
 refine ws fun K2 hK2 => ?_
 refine wr [(0, 0), (1, 0), (2, 0), (3, 1), (4, 0), (5, 0), (6, 0), (7, 1), (8, 0), (9, 2)] ?_
 rcases hq1 : mach_New.f K l0 l1 l2 with _ | r1
 ·rw [hq1] at h; cases h
 rw [hq1] at h
 simp only [] at h
 refine gb0 [0, 1, 2] [(17, .slice A2 l2.length c2), (16, .slice A1 l1.length c1), (15, .slice A0 l0.length c0)] ?_
 refine ge_call (d := some 18) (f := 25) (args := #[.slice A0 l0.length c0, .slice A1 l1.length c1, .slice A2 l2.length c2]) (by kernel_rfl) (mach_New_ok K l0 A0 c0 l1 A1 c1 l2 A2 c2 _ (hS2.rd hR0) hL0 (hS2.rd hR1) hL1 (hS2.rd hR2) hL2 _ hq1) ?_
 rintro _ w3 hP1
 unfold mach_New.Post at hP1
 rcases hro1 : r1.1 with _ | px1
 ·rw [hro1] at hP1 h
  simp only [] at hP1 h
  obtain ⟨rfl, hS3⟩ := hP1
  refine ⟨_, rfl, hS3.below, ?_⟩
  have hS4 := hS2.call hS3
  refine gb0 [4, 5, 6] [(20, .agg #[vI r1.2.Code, vI r1.2.At]), (19, .pointer none), (14, .tuple #[.pointer none, .agg #[vI r1.2.Code, vI r1.2.At]])] ?_
  refine gw (some 9) (.cells #[vI 0, vI 0] 29) (fun b => pP b 0) hS4 fun b3 w4 hx3 hS5 => ?_
  refine gb0 [8] [(8, .pointer none)] ?_
  refine gs b3 0 #[vI 0, vI 0] 29 [vI r1.2.Code, vI r1.2.At] hS5 fun w5 hS6 => ?_
  have hS7 : St w0 w5 [Own.blk b3 (.cells #[vI r1.2.Code, vI r1.2.At] 29 (0, 0)), Own.blk b2 (.cells #[vI 0, vI 0] 29 (0, 0)), Own.blk b1 (.cells #[.slice none 0 0, .slice none 0 0, vI 0] 36 (0, 0))] := hS6
  refine gn hK2 ?_
  refine ws fun K3 hK3 => ?_
  refine ws fun K4 hK4 => ?_
  refine wr [(0, 0), (1, 0), (2, 0)] ?_
  refine gb [0, 1, 2] [(23, .bool (r1.2.Code != 0)), (22, vI r1.2.Code), (21, pP b3 0)] [.loaded ⟨b3, 0, none⟩ (vI r1.2.Code)] ⟨hS7.c 0, trivial⟩ ?_
  refine gn hK4 ?_
  by_cases hc1 : r1.2.Code = 0
  ·rw [if_pos hc1] at h
   refine wk 23 (r1.2.Code != 0) false (bne_eq_false_iff_eq.2 hc1) ?_
   refine we_false (by kernel_rfl) ?_
   refine we_skip fun a hF => hK3 _ _ ?_ a hF
   refine ws fun K5 hK5 => ?_
   refine wr [(0, 0)] ?_
   refine gb0 [0] [(10, vI 0)] ?_
   refine gn hK5 ?_
   refine ws fun K6 hK6 => ?_
   refine ws fun K7 hK7 => ?_
   refine wr [(0, 0)] ?_
   refine gb0 [0] [(11, vI 0)] ?_
   refine gn hK7 ?_
   refine we_block ?_
   have hS8 := hS7.bring 2 rfl
   have hS9 := hS8.bring 2 rfl
   have hS10 := hS9.takeN 2
   rcases hq2 : iter (mach_Run.r0) K (0, 0) with _ | (z4 | rr1)
   ·rw [hq2] at h; cases h
   ·rw [hq2] at h
    simp only [] at h
    refine we_iter (A := mach_Run.A0 w0 b1 b2) (B := mach_Run.B0 w0 b1 b2) hq2 (fun a hF => ⟨hS10, hF.weaken ea⟩) (fun s o hf a w hA Q hQ => mach_Run_r0 K w0 l0 A0 c0 l1 A1 c1 l2 A2 c2 hR0 hL0 hR1 hL1 hR2 hL2 b1 b2 r1 b3 hc1 s o hf a w hA Q hQ) ?_
    rintro _ a w6 _ ⟨rfl, hS11, hF⟩
    replace hS11 : St w0 w6 [Own.blk b2 (.cells #[vI 0, vI 0] 29 (0, 0)), Own.blk b1 (.cells #[.slice none 0 0, .slice none 0 0, vI 0] 36 (0, 0))] := hS11
    refine hK6 [(6, pP b1 0), (7, pP b2 0), (8, .pointer none), (10, vI z4)] w6 ?_ a hF
    refine ws fun K10 hK10 => ?_
    refine we_orders3 (by kernel_rfl) [] (.vals [0] (.vals [1] (.vals [2] (.vals [3] (.vals [4] (.vals [5] (.vals [6] (.vals [7] (.vals [8] (.vals [9] (.vals [10] (.alt 11 2 (.alt 12 2 .fin .nomore) .nomore)))))))))))) (by kernel_rfl) (by kernel_rfl) ?_
    have hS12 := hS11.drew
    refine go3_batch [0] (ans := []) (vs := [(47, .pointer none)]) (l := []) (by kernel_rfl) trivial mem_nil3 ?_
    cases h
   ·rw [hq2] at h
    simp only [] at h
    refine we_iter (A := mach_Run.A0 w0 b1 b2) (B := mach_Run.B0 w0 b1 b2) hq2 (fun a hF => ⟨hS10, hF.weaken ea⟩) (fun s o hf a w hA Q hQ => mach_Run_r0 K w0 l0 A0 c0 l1 A1 c1 l2 A2 c2 hR0 hL0 hR1 hL1 hR2 hL2 b1 b2 r1 b3 hc1 s o hf a w hA Q hQ) ?_
    rintro _ a w1 _ ⟨rfl, hb⟩
    obtain rfl := si h
    exact hb
  ·rw [if_neg hc1] at h
   refine wk 23 (r1.2.Code != 0) true (bne_iff_ne.2 hc1) ?_
   refine we_true (by kernel_rfl) ?_
   refine ws fun K11 hK11 => ?_
   rcases hq3 : mach_Run.p1 r1 with _ | (⟨z8, z9, m3, m4, z10⟩ | rr2)
   ·rw [hq3] at h; cases h
   ·rw [hq3] at h
    simp only [] at h
    refine we_keep (e' := [(0, .slice A0 l0.length c0), (1, .slice A1 l1.length c1), (2, .slice A2 l2.length c2), (6, pP b1 0), (7, pP b2 0), (8, .pointer none), (9, pP b3 0), (14, .tuple #[.pointer none, .agg #[vI r1.2.Code, vI r1.2.At]]), (15, .slice A0 l0.length c0), (16, .slice A1 l1.length c1), (17, .slice A2 l2.length c2), (18, .tuple #[.pointer none, .agg #[vI r1.2.Code, vI r1.2.At]]), (19, .pointer none), (20, .agg #[vI r1.2.Code, vI r1.2.At]), (21, pP b3 0), (22, vI r1.2.Code), (23, .bool true)]) ea (mach_Run_p1 K w0 l0 A0 c0 l1 A1 c1 l2 A2 c2 hR0 hL0 hR1 hL1 hR2 hL2 b1 b2 r1 b3 hc1 _ hq3 _ hS7 _ ?_)
    rintro _ a w9 ⟨rfl, v3, v4, hS26, hF⟩
    replace hS26 : St w0 w9 [Own.blk b2 (.cells #[vI z8, vI z9] 29 (0, 0)), Own.blk b1 (.cells #[v3, v4, vI z10] 36 (0, 0)), Own.of v3 3 m3, Own.of v4 56 m4] := hS26
    refine hK11 [(6, pP b1 0), (7, pP b2 0)] w9 ?_ a hF
    have hS27 := hS26.bring 3 rfl
    have hS28 := hS27.bring 3 rfl
    have hS29 := hS28.takeN 2
    obtain rfl := si h
    exact we_ret (pr [.cell 6 36, .cell 7 29] [.agg #[v3, v4, vI z10], .agg #[vI z8, vI z9]] [.loaded ⟨b1, 0, none⟩ (v3), .loaded ⟨b1, 1, none⟩ (v4), .loaded ⟨b1, 2, none⟩ (vI z10), .loaded ⟨b2, 0, none⟩ (vI z8), .loaded ⟨b2, 1, none⟩ (vI z9)] ⟨hS26.c 1, hS26.c 1, hS26.c 1, hS26.c 0, hS26.c 0, trivial⟩ ⟨v3, v4, rfl, hS29⟩)
   ·rw [hq3] at h
    simp only [] at h
    refine we_keep (e' := [(0, .slice A0 l0.length c0), (1, .slice A1 l1.length c1), (2, .slice A2 l2.length c2), (6, pP b1 0), (7, pP b2 0), (8, .pointer none), (9, pP b3 0), (14, .tuple #[.pointer none, .agg #[vI r1.2.Code, vI r1.2.At]]), (15, .slice A0 l0.length c0), (16, .slice A1 l1.length c1), (17, .slice A2 l2.length c2), (18, .tuple #[.pointer none, .agg #[vI r1.2.Code, vI r1.2.At]]), (19, .pointer none), (20, .agg #[vI r1.2.Code, vI r1.2.At]), (21, pP b3 0), (22, vI r1.2.Code), (23, .bool true)]) ea (mach_Run_p1 K w0 l0 A0 c0 l1 A1 c1 l2 A2 c2 hR0 hL0 hR1 hL1 hR2 hL2 b1 b2 r1 b3 hc1 _ hq3 _ hS7 _ ?_)
    rintro _ a w1 ⟨_, rfl, hb⟩
    obtain rfl := si h
    exact hb
 ·rw [hro1] at hP1 h
  simp only [] at hP1 h
  obtain ⟨pb1, pv1, pv2, pv3, pv4, pv5, rfl, hS30⟩ := hP1
  refine ⟨_, rfl, hS30.below, ?_⟩
  have hS31 := hS2.call hS30
  refine gb0 [4, 5, 6] [(20, .agg #[vI r1.2.Code, vI r1.2.At]), (19, pP pb1 0), (14, .tuple #[pP pb1 0, .agg #[vI r1.2.Code, vI r1.2.At]])] ?_
  refine gw (some 9) (.cells #[vI 0, vI 0] 29) (fun b => pP b 0) hS31 fun b4 w10 hx4 hS32 => ?_
  refine gb0 [8] [(8, pP pb1 0)] ?_
  refine gs b4 0 #[vI 0, vI 0] 29 [vI r1.2.Code, vI r1.2.At] hS32 fun w11 hS33 => ?_
  have hS34 : St w0 w11 [Own.blk b4 (.cells #[vI r1.2.Code, vI r1.2.At] 29 (0, 0)), Own.blk pb1 (.cells #[pv1, pv2, pv3, pv4, pv5, vI ((px1.m_count[0]?).getD 0), vI ((px1.m_count[1]?).getD 0), vI ((px1.m_count[2]?).getD 0), vI ((px1.m_count[3]?).getD 0), vI ((px1.m_count[4]?).getD 0), vI ((px1.m_count[5]?).getD 0), vI ((px1.m_count[6]?).getD 0), vI ((px1.m_count[7]?).getD 0), vI px1.m_at_, vI px1.m_left] 71 (0, 0)), Own.of pv1 41 px1.m_image, Own.of pv2 3 px1.m_in_, Own.of pv3 3 px1.m_vars, Own.of pv4 56 px1.m_puts, Own.of pv5 3 px1.m_stack, Own.blk b2 (.cells #[vI 0, vI 0] 29 (0, 0)), Own.blk b1 (.cells #[.slice none 0 0, .slice none 0 0, vI 0] 36 (0, 0))] := hS33
  refine gn hK2 ?_
  refine ws fun K12 hK12 => ?_
  refine ws fun K13 hK13 => ?_
  refine wr [(0, 0), (1, 0), (2, 0)] ?_
  refine gb [0, 1, 2] [(23, .bool (r1.2.Code != 0)), (22, vI r1.2.Code), (21, pP b4 0)] [.loaded ⟨b4, 0, none⟩ (vI r1.2.Code)] ⟨hS34.c 0, trivial⟩ ?_
  refine gn hK13 ?_
  by_cases hc2 : r1.2.Code = 0
  ·rw [if_pos hc2] at h
   refine wk 23 (r1.2.Code != 0) false (bne_eq_false_iff_eq.2 hc2) ?_
   refine we_false (by kernel_rfl) ?_
   refine we_skip fun a hF => hK12 _ _ ?_ a hF
   refine ws fun K14 hK14 => ?_
   refine wr [(0, 0)] ?_
   refine gb0 [0] [(10, vI 0)] ?_
   refine gn hK14 ?_
   refine ws fun K15 hK15 => ?_
   refine ws fun K16 hK16 => ?_
   refine wr [(0, 0)] ?_
   refine gb0 [0] [(11, vI 0)] ?_
   refine gn hK16 ?_
   refine we_block ?_
   obtain ⟨Z1, cz1, rfl⟩ := hS34.open 2 rfl
   obtain ⟨Z2, cz2, rfl⟩ := hS34.open 3 rfl
   obtain ⟨Z3, cz3, rfl⟩ := hS34.open 4 rfl
   obtain ⟨Z4, cz4, rfl⟩ := hS34.open 5 rfl
   obtain ⟨Z5, cz5, rfl⟩ := hS34.open 6 rfl
   have hS35 := hS34.bring 6 rfl
   have hS36 := hS35.bring 6 rfl
   have hS37 := hS36.bring 6 rfl
   have hS38 := hS37.bring 6 rfl
   have hS39 := hS38.bring 6 rfl
   have hS40 := hS39.bring 8 rfl
   have hS41 := hS40.bring 8 rfl
   have hS42 := hS41.bring 8 rfl
   have hS43 := hS42.takeN 8
   rcases hq7 : iter (mach_Run.r2 px1) K (0, 0, px1.m_vars, px1.m_puts, px1.m_stack, px1.m_count, px1.m_at_, px1.m_left) with _ | (⟨z24, m17, m18, m19, m20, z25, z26⟩ | rr4)
   ·rw [hq7] at h; cases h
   ·rw [hq7] at h
    simp only [] at h
    refine we_iter (A := mach_Run.A2 w0 b1 b2 px1 pb1 Z1 cz1 Z2 cz2) (B := mach_Run.B2 w0 b1 b2 px1 pb1 Z1 cz1 Z2 cz2) hq7 (fun a hF => ⟨(.slice Z3 px1.m_vars.length cz3), (.slice Z4 px1.m_puts.length cz4), (.slice Z5 px1.m_stack.length cz5), hS43, hF.weaken ea⟩) (fun s o hf a w hA Q hQ => mach_Run_r2 K w0 l0 A0 c0 l1 A1 c1 l2 A2 c2 hR0 hL0 hR1 hL1 hR2 hL2 b1 b2 r1 px1 pb1 b4 hc2 Z1 cz1 Z2 cz2 Z3 cz3 Z4 cz4 Z5 cz5 s o hf a w hA Q hQ) ?_
    rintro _ a w19 _ ⟨rfl, v18, v19, v20, hS108, hF⟩
    replace hS108 : St w0 w19 [Own.blk pb1 (.cells #[(.slice Z1 px1.m_image.length cz1), (.slice Z2 px1.m_in_.length cz2), v18, v19, v20, vI ((m20[0]?).getD 0), vI ((m20[1]?).getD 0), vI ((m20[2]?).getD 0), vI ((m20[3]?).getD 0), vI ((m20[4]?).getD 0), vI ((m20[5]?).getD 0), vI ((m20[6]?).getD 0), vI ((m20[7]?).getD 0), vI z25, vI z26] 71 (0, 0)), Own.blk b2 (.cells #[vI 0, vI 0] 29 (0, 0)), Own.blk b1 (.cells #[.slice none 0 0, .slice none 0 0, vI 0] 36 (0, 0)), Own.of (.slice Z1 px1.m_image.length cz1) 41 px1.m_image, Own.of (.slice Z2 px1.m_in_.length cz2) 3 px1.m_in_, Own.of v18 3 m17, Own.of v19 56 m18, Own.of v20 3 m19] := hS108
    refine hK15 [(6, pP b1 0), (7, pP b2 0), (8, pP pb1 0), (10, vI z24)] w19 ?_ a hF
    refine ws fun K25 hK25 => ?_
    refine we_orders3 (by kernel_rfl) [(3, [⟨pb1, 2, none⟩], [], []), (7, [⟨pb1, 3, none⟩], [], [])] (.vals [0] (.vals [1] (.vals [2] (.vals [3] (.vals [4] (.vals [5] (.vals [6] (.vals [7] (.vals [8] (.vals [9] (.vals [10] (.alt 11 2 (.alt 12 2 .fin .nomore) .nomore)))))))))))) (by kernel_rfl) (by kernel_rfl) ?_
    have hS109 := hS108.drew
    refine go3_batch [0, 1, 2] (ans := []) (vs := [(49, pP pb1 2), (48, pP pb1 0), (47, pP pb1 0)]) (l := []) (by kernel_rfl) trivial mem_nil3 ?_
    refine go3_batch [3] (ans := [.val (v18)]) (vs := [(50, v18)]) (l := [.loaded ⟨pb1, 2, none⟩ (v18)]) (by kernel_rfl) ⟨hS109.c 0, trivial⟩ (mem_one3 (by kernel_rfl)) ?_
    refine go3_batch [4, 5, 6] (ans := []) (vs := [(53, pP pb1 3), (52, pP pb1 0), (51, pP pb1 0)]) (l := []) (by kernel_rfl) trivial mem_nil3 ?_
    refine go3_batch [7] (ans := [.val (v19)]) (vs := [(54, v19)]) (l := [.loaded ⟨pb1, 3, none⟩ (v19)]) (by kernel_rfl) ⟨hS109.c 0, trivial⟩ (mem_one3 (by kernel_rfl)) ?_
    refine go3_batch [8] (ans := []) (vs := [(55, vI z24)]) (l := []) (by kernel_rfl) trivial mem_nil3 ?_
    obtain ⟨Z9, cz9, rfl⟩ := hS109.open 5 rfl
    obtain ⟨Z10, cz10, rfl⟩ := hS109.open 6 rfl
    refine go3_batch [9, 10] (ans := []) (vs := [(57, .agg #[vI 0, vI 0]), (56, .agg #[(.slice Z9 m17.length cz9), (.slice Z10 m18.length cz10), vI z24])]) (l := []) (by kernel_rfl) trivial mem_nil3 ?_
    refine go_alt3 (fun KK hKK => ?_) ?_
    ·have hS110 := hS109.bring 2 rfl
     refine gs b1 0 #[.slice none 0 0, .slice none 0 0, vI 0] 36 [(.slice Z9 m17.length cz9), (.slice Z10 m18.length cz10), vI z24] hS110 fun w20 hS111 => ?_
     have hS112 : St w0 w20 [Own.blk b1 (.cells #[(.slice Z9 m17.length cz9), (.slice Z10 m18.length cz10), vI z24] 36 (0, 0)), Own.blk pb1 (.cells #[(.slice Z1 px1.m_image.length cz1), (.slice Z2 px1.m_in_.length cz2), (.slice Z9 m17.length cz9), (.slice Z10 m18.length cz10), v20, vI ((m20[0]?).getD 0), vI ((m20[1]?).getD 0), vI ((m20[2]?).getD 0), vI ((m20[3]?).getD 0), vI ((m20[4]?).getD 0), vI ((m20[5]?).getD 0), vI ((m20[6]?).getD 0), vI ((m20[7]?).getD 0), vI z25, vI z26] 71 (0, 0)), Own.blk b2 (.cells #[vI 0, vI 0] 29 (0, 0)), Own.of (.slice Z1 px1.m_image.length cz1) 41 px1.m_image, Own.of (.slice Z2 px1.m_in_.length cz2) 3 px1.m_in_, Own.of (.slice Z9 m17.length cz9) 3 m17, Own.of (.slice Z10 m18.length cz10) 56 m18, Own.of v20 3 m19] := hS111
     refine ge_nil fun a hF => hKK _ _ (RS.of2 (l := []) (by kernel_rfl) trivial trivial) ?_ a hF
     refine go_alt3 (fun KK hKK => ?_) ?_
     ·have hS113 := hS112.bring 2 rfl
      refine gs b2 0 #[vI 0, vI 0] 29 [vI 0, vI 0] hS113 fun w21 hS114 => ?_
      have hS115 : St w0 w21 [Own.blk b2 (.cells #[vI 0, vI 0] 29 (0, 0)), Own.blk b1 (.cells #[(.slice Z9 m17.length cz9), (.slice Z10 m18.length cz10), vI z24] 36 (0, 0)), Own.blk pb1 (.cells #[(.slice Z1 px1.m_image.length cz1), (.slice Z2 px1.m_in_.length cz2), (.slice Z9 m17.length cz9), (.slice Z10 m18.length cz10), v20, vI ((m20[0]?).getD 0), vI ((m20[1]?).getD 0), vI ((m20[2]?).getD 0), vI ((m20[3]?).getD 0), vI ((m20[4]?).getD 0), vI ((m20[5]?).getD 0), vI ((m20[6]?).getD 0), vI ((m20[7]?).getD 0), vI z25, vI z26] 71 (0, 0)), Own.of (.slice Z1 px1.m_image.length cz1) 41 px1.m_image, Own.of (.slice Z2 px1.m_in_.length cz2) 3 px1.m_in_, Own.of (.slice Z9 m17.length cz9) 3 m17, Own.of (.slice Z10 m18.length cz10) 56 m18, Own.of v20 3 m19] := hS114
      refine ge_nil fun a hF => hKK _ _ (RS.of2 (l := []) (by kernel_rfl) trivial trivial) ?_ a hF
      refine go_fin3 fun a hF => hK25 _ _ ?_ a hF
      have hS116 := hS115.bring 6 rfl
      have hS117 := hS116.bring 6 rfl
      have hS118 := hS117.takeN 2
      obtain rfl := si h
      exact we_ret (pr [.cell 6 36, .cell 7 29] [.agg #[(.slice Z9 m17.length cz9), (.slice Z10 m18.length cz10), vI z24], .agg #[vI 0, vI 0]] [.loaded ⟨b1, 0, none⟩ ((.slice Z9 m17.length cz9)), .loaded ⟨b1, 1, none⟩ ((.slice Z10 m18.length cz10)), .loaded ⟨b1, 2, none⟩ (vI z24), .loaded ⟨b2, 0, none⟩ (vI 0), .loaded ⟨b2, 1, none⟩ (vI 0)] ⟨hS115.c 1, hS115.c 1, hS115.c 1, hS115.c 0, hS115.c 0, trivial⟩ ⟨(.slice Z9 m17.length cz9), (.slice Z10 m18.length cz10), rfl, hS118⟩)
     exact go_nomore3
    exact go_nomore3
   ·rw [hq7] at h
    simp only [] at h
    refine we_iter (A := mach_Run.A2 w0 b1 b2 px1 pb1 Z1 cz1 Z2 cz2) (B := mach_Run.B2 w0 b1 b2 px1 pb1 Z1 cz1 Z2 cz2) hq7 (fun a hF => ⟨(.slice Z3 px1.m_vars.length cz3), (.slice Z4 px1.m_puts.length cz4), (.slice Z5 px1.m_stack.length cz5), hS43, hF.weaken ea⟩) (fun s o hf a w hA Q hQ => mach_Run_r2 K w0 l0 A0 c0 l1 A1 c1 l2 A2 c2 hR0 hL0 hR1 hL1 hR2 hL2 b1 b2 r1 px1 pb1 b4 hc2 Z1 cz1 Z2 cz2 Z3 cz3 Z4 cz4 Z5 cz5 s o hf a w hA Q hQ) ?_
    rintro _ a w1 _ ⟨rfl, hb⟩
    obtain rfl := si h
    exact hb
  ·rw [if_neg hc2] at h
   refine wk 23 (r1.2.Code != 0) true (bne_iff_ne.2 hc2) ?_
   refine we_true (by kernel_rfl) ?_
   refine ws fun K26 hK26 => ?_
   obtain ⟨Z11, cz11, rfl⟩ := hS34.open 2 rfl
   obtain ⟨Z12, cz12, rfl⟩ := hS34.open 3 rfl
   obtain ⟨Z13, cz13, rfl⟩ := hS34.open 4 rfl
   obtain ⟨Z14, cz14, rfl⟩ := hS34.open 5 rfl
   obtain ⟨Z15, cz15, rfl⟩ := hS34.open 6 rfl
   rcases hq8 : mach_Run.p4 r1 with _ | (⟨z30, z31, m23, m24, z32⟩ | rr5)
   ·rw [hq8] at h; cases h
   ·rw [hq8] at h
    simp only [] at h
    refine we_keep (e' := [(0, .slice A0 l0.length c0), (1, .slice A1 l1.length c1), (2, .slice A2 l2.length c2), (6, pP b1 0), (7, pP b2 0), (8, pP pb1 0), (9, pP b4 0), (14, .tuple #[pP pb1 0, .agg #[vI r1.2.Code, vI r1.2.At]]), (15, .slice A0 l0.length c0), (16, .slice A1 l1.length c1), (17, .slice A2 l2.length c2), (18, .tuple #[pP pb1 0, .agg #[vI r1.2.Code, vI r1.2.At]]), (19, pP pb1 0), (20, .agg #[vI r1.2.Code, vI r1.2.At]), (21, pP b4 0), (22, vI r1.2.Code), (23, .bool true)]) ea (mach_Run_p4 K w0 l0 A0 c0 l1 A1 c1 l2 A2 c2 hR0 hL0 hR1 hL1 hR2 hL2 b1 b2 r1 px1 pb1 b4 hc2 Z11 cz11 Z12 cz12 Z13 cz13 Z14 cz14 Z15 cz15 _ hq8 _ hS34 _ ?_)
    rintro _ a w24 ⟨rfl, v23, v24, hS132, hF⟩
    replace hS132 : St w0 w24 [Own.blk b2 (.cells #[vI z30, vI z31] 29 (0, 0)), Own.blk b1 (.cells #[v23, v24, vI z32] 36 (0, 0)), Own.of v23 3 m23, Own.of v24 56 m24] := hS132
    refine hK26 [(6, pP b1 0), (7, pP b2 0)] w24 ?_ a hF
    have hS133 := hS132.bring 3 rfl
    have hS134 := hS133.bring 3 rfl
    have hS135 := hS134.takeN 2
    obtain rfl := si h
    exact we_ret (pr [.cell 6 36, .cell 7 29] [.agg #[v23, v24, vI z32], .agg #[vI z30, vI z31]] [.loaded ⟨b1, 0, none⟩ (v23), .loaded ⟨b1, 1, none⟩ (v24), .loaded ⟨b1, 2, none⟩ (vI z32), .loaded ⟨b2, 0, none⟩ (vI z30), .loaded ⟨b2, 1, none⟩ (vI z31)] ⟨hS132.c 1, hS132.c 1, hS132.c 1, hS132.c 0, hS132.c 0, trivial⟩ ⟨v23, v24, rfl, hS135⟩)
   ·rw [hq8] at h
    simp only [] at h
    refine we_keep (e' := [(0, .slice A0 l0.length c0), (1, .slice A1 l1.length c1), (2, .slice A2 l2.length c2), (6, pP b1 0), (7, pP b2 0), (8, pP pb1 0), (9, pP b4 0), (14, .tuple #[pP pb1 0, .agg #[vI r1.2.Code, vI r1.2.At]]), (15, .slice A0 l0.length c0), (16, .slice A1 l1.length c1), (17, .slice A2 l2.length c2), (18, .tuple #[pP pb1 0, .agg #[vI r1.2.Code, vI r1.2.At]]), (19, pP pb1 0), (20, .agg #[vI r1.2.Code, vI r1.2.At]), (21, pP b4 0), (22, vI r1.2.Code), (23, .bool true)]) ea (mach_Run_p4 K w0 l0 A0 c0 l1 A1 c1 l2 A2 c2 hR0 hL0 hR1 hL1 hR2 hL2 b1 b2 r1 px1 pb1 b4 hc2 Z11 cz11 Z12 cz12 Z13 cz13 Z14 cz14 Z15 cz15 _ hq8 _ hS34 _ ?_)
    rintro _ a w1 ⟨_, rfl, hb⟩
    obtain rfl := si h
    exact hb

/-! punctual/punctualsame.Same[punctual/api.Put] -/
abbrev punctualsame_Same_api_Put.Post (w0 : World) (r : Bool) (e : Ending) (w : World) : Prop := e = .returned (.bool r) ∧ St w0 w []
def punctualsame_Same_api_Put.r0 (l0 : List SPut) (l1 : List SPut) : Nat → Option (Nat ⊕ (Unit ⊕ Bool))
 | i1 =>
  if (i1 : Int) < (l0.length : Int) then
   match l0[i1]? with
   | none => none
   | some e1 =>
    match l1[i1]? with
    | none => none
    | some e2 =>
     if (SPut.eqb e1 e2) = true then
      some (.inl (i1 + 1))
     else
      some (.inr (.inr false))
  else
   some (.inr (.inl ()))
def punctualsame_Same_api_Put.f (K : Nat) (l0 : List SPut) (l1 : List SPut) : Option Bool :=
 if (l0.length : Int) = (l1.length : Int) then
  match iter (punctualsame_Same_api_Put.r0 l0 l1) K 0 with
  | none => none
  | some (.inl _) =>
   some true
  | some (.inr rr1) =>
   some rr1
 else
  some false
abbrev punctualsame_Same_api_Put.A0 (w0 : World) (l0 : List SPut) (A0 : Option Addr) (c0 : Nat) (l1 : List SPut) (A1 : Option Addr) (c1 : Nat) : Nat → Act → World → Prop := fun (s : Nat) a w => St w0 w [] ∧ Frm 26 a [(0, .slice A0 l0.length c0), (1, .slice A1 l1.length c1), (12, vI (l0.length : Int)), (13, vI (s : Int))]
abbrev punctualsame_Same_api_Put.B0 (w0 : World) : (Unit ⊕ Bool) → Exit → Act → World → Prop := Exits 0 (fun (s : Unit) a w => St w0 w [] ∧ Frm 26 a []) (Rets Try.prog Try.f21 (punctualsame_Same_api_Put.Post w0))
theorem punctualsame_Same_api_Put_r0 (K : Nat) (w0 : World) (l0 : List SPut) (A0 : Option Addr) (c0 : Nat) (l1 : List SPut) (A1 : Option Addr) (c1 : Nat) (hR0 : RdL w0 A0 l0) (hL0 : l0.length ≤ c0) (hR1 : RdL w0 A1 l1) (hL1 : l1.length ≤ c1) (hc1 : (l0.length : Int) = (l1.length : Int)) (s : Nat) (o : Nat ⊕ (Unit ⊕ Bool)) (h : punctualsame_Same_api_Put.r0 l0 l1 s = some o) (a : Act) (w : World) (hA : punctualsame_Same_api_Put.A0 w0 l0 A0 c0 l1 A1 c1 s a w) (Q : Exit → Act → World → Prop) (hQ : ∀ x a w, Outs (punctualsame_Same_api_Put.A0 w0 l0 A0 c0 l1 A1 c1) (punctualsame_Same_api_Put.B0 w0) o x a w → Q x a w) : (subF Try.f21 [1, 1, 0, 1, 0, 0]).wp Try.prog Q a w := by
 obtain ⟨i1, hs⟩ : ∃ z, z = s := ⟨s, rfl⟩
 subst hs
 obtain ⟨hS, hF⟩ := hA
 replace hS : St w0 w [] := hS
 simp only [punctualsame_Same_api_Put.r0] at h
 refine (?_ : WE Try.prog 26 (subF Try.f21 [1, 1, 0, 1, 0, 0]) Q [(0, .slice A0 l0.length c0), (1, .slice A1 l1.length c1), (12, vI (l0.length : Int)), (13, vI (i1 : Int))] w) a hF
 clear hF a
 refine ws fun K6 hK6 => ?_
 refine wr [(0, 0)] ?_
 refine gb0 [0] [(14, .bool (decide ((i1 : Int) < (l0.length : Int))))] ?_
 refine gn hK6 ?_
 refine ws fun K7 hK7 => ?_
 by_cases hc2 : (i1 : Int) < (l0.length : Int)
 ·rw [if_pos hc2] at h
  refine wk 14 (decide ((i1 : Int) < (l0.length : Int))) true (decide_eq_true hc2) ?_
  refine we_true (by kernel_rfl) ?_
  refine we_skip fun a hF => hK7 _ _ ?_ a hF
  refine ws fun K8 hK8 => ?_
  refine we_block ?_
  refine ws fun K9 hK9 => ?_
  refine wr [(0, 0), (1, 0)] ?_
  refine gb0 [0, 1] [(5, vI (i1 : Int)), (15, vI (i1 : Int))] ?_
  refine gn hK9 ?_
  refine ws fun K10 hK10 => ?_
  refine we_draws (by kernel_rfl) [(0, 0), (1, 0), (2, 0), (3, 0), (4, 0), (5, 0), (6, 0), (7, 0), (8, 0)] (by kernel_rfl) ?_
  have hS1 := hS.drew
  refine gb0 [0, 1] [(17, vI (i1 : Int)), (16, .slice A0 l0.length c0)] ?_
  rcases hx1 : l0[i1]? with _ | e1
  ·rw [hx1] at h; cases h
  rw [hx1] at h
  simp only [] at h
  refine gi 18 0 34 56 2 l0.length c0 (.tmp 16) (.tmp 17) A0 .i64 (i1 : Int) i1 ((hS1.rd hR0).eqSome (pos_of_get hx1)) rfl (lt_of_get hx1) ?_
  refine gb [3, 4, 5] [(21, vI (i1 : Int)), (20, .slice A1 l1.length c1), (19, .agg #[vI e1.Port, vI e1.Value])] [.loaded ⟨blkOf A0, offOf A0 + i1 * 2, none⟩ (vI e1.Port), .loaded ⟨blkOf A0, offOf A0 + i1 * 2 + 1, none⟩ (vI e1.Value)] ⟨RdL.cell (j := 0) (hS1.rd hR0) hx1 rfl, RdL.cell (j := 1) (hS1.rd hR0) hx1 rfl, trivial⟩ ?_
  rcases hx2 : l1[i1]? with _ | e2
  ·rw [hx2] at h; cases h
  rw [hx2] at h
  simp only [] at h
  refine gi 22 0 34 56 2 l1.length c1 (.tmp 20) (.tmp 21) A1 .i64 (i1 : Int) i1 ((hS1.rd hR1).eqSome (pos_of_get hx2)) rfl (lt_of_get hx2) ?_
  refine gb [7] [(23, .agg #[vI e2.Port, vI e2.Value])] [.loaded ⟨blkOf A1, offOf A1 + i1 * 2, none⟩ (vI e2.Port), .loaded ⟨blkOf A1, offOf A1 + i1 * 2 + 1, none⟩ (vI e2.Value)] ⟨RdL.cell (j := 0) (hS1.rd hR1) hx2 rfl, RdL.cell (j := 1) (hS1.rd hR1) hx2 rfl, trivial⟩ ?_
  refine ge_eqs (d := 24) (ty := 4) (op := .neq) (x := (.tmp 19)) (y := (.tmp 23)) (t := 56) (t2 := 56) (xs := #[vI e1.Port, vI e1.Value]) (ys := #[vI e2.Port, vI e2.Value]) (r := (SPut.eqb e1 e2)) (v := !(SPut.eqb e1 e2)) (by kernel_rfl) (by kernel_rfl) (by kernel_rfl) (by kernel_rfl) (by kernel_rfl) rfl ?_
  refine gn hK10 ?_
  by_cases hc3 : (SPut.eqb e1 e2) = true
  ·rw [if_pos hc3] at h
   refine wk 24 (!(SPut.eqb e1 e2)) false (congrArg (fun z => !z) hc3) ?_
   refine we_false (by kernel_rfl) ?_
   refine we_skip fun a hF => hK8 _ _ ?_ a hF
   refine wr [(0, 0), (1, 0)] ?_
   refine ge_addn (d := 25) (ty := 3) (x := (.tmp 13)) (y := (.const (vI 1))) (t := 3) (t2 := 3) (k := .i64) (m := i1) (by kernel_rfl) (by kernel_rfl) (by kernel_rfl) (by have h0 := hR0.small; omega) ?_
   refine gb0 [1] [(13, vI ((i1 + 1 : Nat) : Int))] ?_
   obtain rfl := si h
   exact ge_nil fun a hF => hQ _ _ _ (Outs.again ⟨hS1, hF.weaken ea⟩)
  ·rw [if_neg hc3] at h
   refine wk 24 (!(SPut.eqb e1 e2)) true (congrArg (fun z => !z) (Bool.eq_false_iff.2 hc3)) ?_
   refine we_true (by kernel_rfl) ?_
   refine ws fun K11 hK11 => ?_
   refine wr [(0, 0)] ?_
   refine gb0 [0] [(4, .bool false)] ?_
   refine gn hK11 ?_
   obtain rfl := si h
   exact we_ret fun a hF => hQ _ _ _ (Outs.out nofun (Exits.on ⟨rfl, (pr0 [.tmp 4] [.bool false] ⟨rfl, hS1⟩) a hF⟩))
 ·rw [if_neg hc2] at h
  refine wk 14 (decide ((i1 : Int) < (l0.length : Int))) false (decide_eq_false hc2) ?_
  refine we_false (by kernel_rfl) ?_
  obtain rfl := si h
  exact we_exit fun a hF => hQ _ _ _ (Outs.out nofun (Exits.here ⟨hS, hF.weaken trivial⟩))
theorem punctualsame_Same_api_Put_ok (K : Nat) (l0 : List SPut) (A0 : Option Addr) (c0 : Nat) (l1 : List SPut) (A1 : Option Addr) (c1 : Nat) (w0 : World) (hR0 : RdL w0 A0 l0) (hL0 : l0.length ≤ c0) (hR1 : RdL w0 A1 l1) (hL1 : l1.length ≤ c1) (r : Bool) (h : punctualsame_Same_api_Put.f K l0 l1 = some r) :
  Calls Try.prog 21 #[.slice A0 l0.length c0, .slice A1 l1.length c1] w0 (punctualsame_Same_api_Put.Post w0 r) := by
 have hS := St.start w0
 unfold punctualsame_Same_api_Put.f at h
 refine calls_enter (n := 26) (args := [.slice A0 l0.length c0, .slice A1 l1.length c1]) (fn := Try.f21) rfl rfl rfl rfl ?_
 show WE _ _ _ _ [(0, .slice A0 l0.length c0), (1, .slice A1 l1.length c1)] _
 refine ws fun K1 hK1 => ?_
 refine wr [(0, 0)] ?_
 refine gb0 [0] [(4, .bool false)] ?_
 refine gn hK1 ?_
 refine ws fun K2 hK2 => ?_
 refine ws fun K3 hK3 => ?_
 refine wr [(0, 0), (1, 0), (2, 0), (3, 0), (4, 0)] ?_
 refine gb0 [0, 1, 2, 3, 4] [(10, .bool ((l0.length : Int) != (l1.length : Int))), (9, vI (l1.length : Int)), (8, .slice A1 l1.length c1), (7, vI (l0.length : Int)), (6, .slice A0 l0.length c0)] ?_
 refine gn hK3 ?_
 by_cases hc1 : (l0.length : Int) = (l1.length : Int)
 ·rw [if_pos hc1] at h
  refine wk 10 ((l0.length : Int) != (l1.length : Int)) false (bne_eq_false_iff_eq.2 hc1) ?_
  refine we_false (by kernel_rfl) ?_
  refine we_skip fun a hF => hK2 _ _ ?_ a hF
  refine ws fun K4 hK4 => ?_
  refine ws fun K5 hK5 => ?_
  refine wr [(0, 0), (1, 0), (2, 0)] ?_
  refine gb0 [0, 1, 2] [(13, vI 0), (12, vI (l0.length : Int)), (11, .slice A0 l0.length c0)] ?_
  refine gn hK5 ?_
  refine we_block ?_
  rcases hq1 : iter (punctualsame_Same_api_Put.r0 l0 l1) K 0 with _ | (_ | rr1)
  ·rw [hq1] at h; cases h
  ·rw [hq1] at h
   simp only [] at h
   refine we_iter (A := punctualsame_Same_api_Put.A0 w0 l0 A0 c0 l1 A1 c1) (B := punctualsame_Same_api_Put.B0 w0) hq1 (fun a hF => ⟨hS, hF.weaken ea⟩) (fun s o hf a w hA Q hQ => punctualsame_Same_api_Put_r0 K w0 l0 A0 c0 l1 A1 c1 hR0 hL0 hR1 hL1 hc1 s o hf a w hA Q hQ) ?_
   rintro _ a w1 _ ⟨rfl, hS2, hF⟩
   replace hS2 : St w0 w1 [] := hS2
   refine hK4 [] w1 ?_ a hF
   refine ws fun K12 hK12 => ?_
   refine wr [(0, 0)] ?_
   refine gb0 [0] [(4, .bool true)] ?_
   refine gn hK12 ?_
   obtain rfl := si h
   exact we_ret (pr0 [.tmp 4] [.bool true] ⟨rfl, hS2⟩)
  ·rw [hq1] at h
   simp only [] at h
   refine we_iter (A := punctualsame_Same_api_Put.A0 w0 l0 A0 c0 l1 A1 c1) (B := punctualsame_Same_api_Put.B0 w0) hq1 (fun a hF => ⟨hS, hF.weaken ea⟩) (fun s o hf a w hA Q hQ => punctualsame_Same_api_Put_r0 K w0 l0 A0 c0 l1 A1 c1 hR0 hL0 hR1 hL1 hc1 s o hf a w hA Q hQ) ?_
   rintro _ a w1 _ ⟨rfl, hb⟩
   obtain rfl := si h
   exact hb
 ·rw [if_neg hc1] at h
  refine wk 10 ((l0.length : Int) != (l1.length : Int)) true (bne_iff_ne.2 hc1) ?_
  refine we_true (by kernel_rfl) ?_
  refine ws fun K13 hK13 => ?_
  refine wr [(0, 0)] ?_
  refine gb0 [0] [(4, .bool false)] ?_
  refine gn hK13 ?_
  obtain rfl := si h
  exact we_ret (pr0 [.tmp 4] [.bool false] ⟨rfl, hS⟩)

/-! punctual/punctuallaw.works -/
abbrev works.Post (w0 : World) (r : Bool) (e : Ending) (w : World) : Prop := e = .returned (.bool r) ∧ St w0 w []
def works.p0 (K : Nat) : Option (((List Int) × (List SPut) × Int × Int × Int) ⊕ Bool) :=
  match mach_Run.f K image.f (List.replicate 8 (0 : Int)) ([5, 0, 0, 0] : List Int) with
  | none => none
  | some r1 =>
   some (.inl (r1.1.Vars, r1.1.Puts, r1.1.Steps, r1.2.Code, r1.2.At))
def works.f (K : Nat) : Option Bool :=
 match works.p0 K with
 | none => none
 | some (.inl (m3, m4, z4, z5, z6)) =>
  if z5 = 0 then
   if z4 = 28 then
    if (m3.length : Int) = 8 then
     match m3[0]? with
     | none => none
     | some e1 =>
      if e1 = 15 then
       match punctualsame_Same_api_Put.f K m4 ([(⟨1, 30⟩ : SPut)] : List SPut) with
       | none => none
       | some r1 =>
        some r1
      else
       some false
    else
     some false
   else
    some false
  else
   some false
 | some (.inr rr1) =>
  some rr1
abbrev works.t1_0 : Ord := (.alt 9 2 (.alt 10 2 .fin .nomore) .nomore)
abbrev works.t1_1 : Ord := (.alt 3 1 (.vals [4] (.vals [5] (.vals [6] works.t1_0))) .nomore)
abbrev works.t1_2 : Ord := (.alt 0 1 works.t1_1 .nomore)
abbrev works.t1_3 : Ord := (.alt 1 1 works.t1_1 .nomore)
abbrev works.t1_4 : Ord := (.alt 0 1 works.t1_3 (.alt 1 1 works.t1_2 .nomore))
abbrev works.t1_5 : Ord := (.alt 2 1 works.t1_1 .nomore)
abbrev works.t1_6 : Ord := (.alt 0 1 works.t1_5 (.alt 2 1 works.t1_2 .nomore))
abbrev works.t1_7 : Ord := (.alt 1 1 works.t1_5 (.alt 2 1 works.t1_3 .nomore))
abbrev works.t1_8 : Ord := (.alt 0 1 works.t1_7 (.alt 1 1 works.t1_6 (.alt 2 1 works.t1_4 .nomore)))
abbrev works.t1_9 : Ord := (.alt 7 1 works.t1_0 .nomore)
abbrev works.t1_10 : Ord := (.alt 3 1 (.vals [4] (.vals [5] (.vals [6] works.t1_9))) (.alt 7 1 works.t1_1 .nomore))
abbrev works.t1_11 : Ord := (.alt 0 1 works.t1_10 (.alt 7 1 works.t1_2 .nomore))
abbrev works.t1_12 : Ord := (.alt 1 1 works.t1_10 (.alt 7 1 works.t1_3 .nomore))
abbrev works.t1_13 : Ord := (.alt 0 1 works.t1_12 (.alt 1 1 works.t1_11 (.alt 7 1 works.t1_4 .nomore)))
abbrev works.t1_14 : Ord := (.alt 2 1 works.t1_10 (.alt 7 1 works.t1_5 .nomore))
abbrev works.t1_15 : Ord := (.alt 0 1 works.t1_14 (.alt 2 1 works.t1_11 (.alt 7 1 works.t1_6 .nomore)))
abbrev works.t1_16 : Ord := (.alt 1 1 works.t1_14 (.alt 2 1 works.t1_12 (.alt 7 1 works.t1_7 .nomore)))
abbrev works.t1_17 : Ord := (.alt 8 1 works.t1_0 .nomore)
abbrev works.t1_18 : Ord := (.alt 3 1 (.vals [4] (.vals [5] (.vals [6] works.t1_17))) (.alt 8 1 works.t1_1 .nomore))
abbrev works.t1_19 : Ord := (.alt 0 1 works.t1_18 (.alt 8 1 works.t1_2 .nomore))
abbrev works.t1_20 : Ord := (.alt 1 1 works.t1_18 (.alt 8 1 works.t1_3 .nomore))
abbrev works.t1_21 : Ord := (.alt 0 1 works.t1_20 (.alt 1 1 works.t1_19 (.alt 8 1 works.t1_4 .nomore)))
abbrev works.t1_22 : Ord := (.alt 2 1 works.t1_18 (.alt 8 1 works.t1_5 .nomore))
abbrev works.t1_23 : Ord := (.alt 0 1 works.t1_22 (.alt 2 1 works.t1_19 (.alt 8 1 works.t1_6 .nomore)))
abbrev works.t1_24 : Ord := (.alt 1 1 works.t1_22 (.alt 2 1 works.t1_20 (.alt 8 1 works.t1_7 .nomore)))
abbrev works.t1_25 : Ord := (.alt 3 1 (.vals [4] (.vals [5] (.vals [6] (.alt 7 1 works.t1_17 (.alt 8 1 works.t1_9 .nomore))))) (.alt 7 1 works.t1_18 (.alt 8 1 works.t1_10 .nomore)))
abbrev works.t1_26 : Ord := (.alt 0 1 works.t1_25 (.alt 7 1 works.t1_19 (.alt 8 1 works.t1_11 .nomore)))
abbrev works.t1_27 : Ord := (.alt 1 1 works.t1_25 (.alt 7 1 works.t1_20 (.alt 8 1 works.t1_12 .nomore)))
abbrev works.t1_28 : Ord := (.alt 2 1 works.t1_25 (.alt 7 1 works.t1_22 (.alt 8 1 works.t1_14 .nomore)))
abbrev works.A0 (w0 : World) : ((List Int) × (List SPut) × Int × Int × Int) → Act → World → Prop := fun (s : (List Int) × (List SPut) × Int × Int × Int) a w => ∃ (b1 : Nat) (b2 : Nat) (v1 : Value) (v2 : Value), St w0 w [Own.blk b1 (.cells #[v1, v2, vI s.2.2.1] 36 (0, 0)), Own.blk b2 (.cells #[vI s.2.2.2.1, vI s.2.2.2.2] 29 (0, 0)), Own.of v1 3 s.1, Own.of v2 56 s.2.1] ∧ Frm 38 a [(1, pP b1 0), (2, pP b2 0)]
abbrev works.B0 (w0 : World) : Bool → Exit → Act → World → Prop := Rets Try.prog Try.f7 (works.Post w0)
theorem works_p0 (K : Nat) (w0 : World) (o : ((List Int) × (List SPut) × Int × Int × Int) ⊕ Bool) (h : works.p0 K = some o) (w : World) (hS : St w0 w []) (Q : Exit → Act → World → Prop) (hQ : ∀ x a w, Outs (works.A0 w0) (works.B0 w0) o x a w → Q x a w) : WE Try.prog 38 (subF Try.f7 [1, 0]) Q [(0, .bool false)] w := by
 simp only [works.p0] at h
 refine we_orders3 (by kernel_rfl) [] (.alt 0 1 (.alt 1 1 works.t1_28 (.alt 2 1 works.t1_27 (.alt 7 1 works.t1_24 (.alt 8 1 works.t1_16 .nomore)))) (.alt 1 1 (.alt 0 1 works.t1_28 (.alt 2 1 works.t1_26 (.alt 7 1 works.t1_23 (.alt 8 1 works.t1_15 .nomore)))) (.alt 2 1 (.alt 0 1 works.t1_27 (.alt 1 1 works.t1_26 (.alt 7 1 works.t1_21 (.alt 8 1 works.t1_13 .nomore)))) (.alt 7 1 (.alt 0 1 works.t1_24 (.alt 1 1 works.t1_23 (.alt 2 1 works.t1_21 (.alt 8 1 works.t1_8 .nomore)))) (.alt 8 1 (.alt 0 1 works.t1_16 (.alt 1 1 works.t1_15 (.alt 2 1 works.t1_13 (.alt 7 1 works.t1_8 .nomore)))) .nomore))))) (by kernel_rfl) (by kernel_rfl) ?_
 have hS1 := hS.drew
 refine go3_join works.t1_0 (fun (x : Nat × (Option Addr) × Nat × (Option Addr) × Nat × (SEnded × SFault) × Value × Value × Nat × Nat) e w => match x with | (b3, Z1, cz1, Z2, cz2, r1, v5, v6, b4, b5) => e = [(0, .bool false), (1, pP b4 0), (2, pP b5 0), (8, .agg #[v5, v6, vI r1.1.Steps]), (9, .agg #[vI r1.2.Code, vI r1.2.At])] ∧ (mach_Run.f K image.f (List.replicate 8 (0 : Int)) ([5, 0, 0, 0] : List Int) = some r1) ∧ St w0 w [Own.blk b5 (.cells #[vI 0, vI 0] 29 (0, 0)), Own.blk b4 (.cells #[.slice none 0 0, .slice none 0 0, vI 0] 36 (0, 0)), Own.of v5 3 r1.1.Vars, Own.of v6 56 r1.1.Puts, Own.blk b3 (.cells #[vI 5, vI 0, vI 0, vI 0] 3 (0, 0)), Own.of (.slice Z2 (List.replicate 8 (0 : Int)).length cz2) 3 (List.replicate 8 (0 : Int)), Own.of (.slice Z1 image.f.length cz1) 41 image.f]) ?_ fun hJ1_3 => ?_
 ·rintro ⟨b3, Z1, cz1, Z2, cz2, r1, v5, v6, b4, b5⟩ _ W4 ⟨rfl, hq2, hS13⟩
  replace hS13 : St w0 W4 [Own.blk b5 (.cells #[vI 0, vI 0] 29 (0, 0)), Own.blk b4 (.cells #[.slice none 0 0, .slice none 0 0, vI 0] 36 (0, 0)), Own.of v5 3 r1.1.Vars, Own.of v6 56 r1.1.Puts, Own.blk b3 (.cells #[vI 5, vI 0, vI 0, vI 0] 3 (0, 0)), Own.of (.slice Z2 (List.replicate 8 (0 : Int)).length cz2) 3 (List.replicate 8 (0 : Int)), Own.of (.slice Z1 image.f.length cz1) 41 image.f] := hS13
  rw [hq2] at h
  simp only [] at h
  refine go_alt3 (fun KK hKK => ?_) ?_
  ·obtain ⟨Z3, cz3, rfl⟩ := hS13.open 2 rfl
   obtain ⟨Z4, cz4, rfl⟩ := hS13.open 3 rfl
   have hS14 := hS13.bring 1 rfl
   refine gs b4 0 #[.slice none 0 0, .slice none 0 0, vI 0] 36 [(.slice Z3 r1.1.Vars.length cz3), (.slice Z4 r1.1.Puts.length cz4), vI r1.1.Steps] hS14 fun w7 hS15 => ?_
   have hS16 : St w0 w7 [Own.blk b4 (.cells #[(.slice Z3 r1.1.Vars.length cz3), (.slice Z4 r1.1.Puts.length cz4), vI r1.1.Steps] 36 (0, 0)), Own.blk b5 (.cells #[vI 0, vI 0] 29 (0, 0)), Own.of (.slice Z3 r1.1.Vars.length cz3) 3 r1.1.Vars, Own.of (.slice Z4 r1.1.Puts.length cz4) 56 r1.1.Puts, Own.blk b3 (.cells #[vI 5, vI 0, vI 0, vI 0] 3 (0, 0)), Own.of (.slice Z2 (List.replicate 8 (0 : Int)).length cz2) 3 (List.replicate 8 (0 : Int)), Own.of (.slice Z1 image.f.length cz1) 41 image.f] := hS15
   refine ge_nil fun a hF => hKK _ _ (RS.of2 (l := []) (by kernel_rfl) trivial trivial) ?_ a hF
   refine go_alt3 (fun KK hKK => ?_) ?_
   ·have hS17 := hS16.bring 1 rfl
    refine gs b5 0 #[vI 0, vI 0] 29 [vI r1.2.Code, vI r1.2.At] hS17 fun w8 hS18 => ?_
    have hS19 : St w0 w8 [Own.blk b5 (.cells #[vI r1.2.Code, vI r1.2.At] 29 (0, 0)), Own.blk b4 (.cells #[(.slice Z3 r1.1.Vars.length cz3), (.slice Z4 r1.1.Puts.length cz4), vI r1.1.Steps] 36 (0, 0)), Own.of (.slice Z3 r1.1.Vars.length cz3) 3 r1.1.Vars, Own.of (.slice Z4 r1.1.Puts.length cz4) 56 r1.1.Puts, Own.blk b3 (.cells #[vI 5, vI 0, vI 0, vI 0] 3 (0, 0)), Own.of (.slice Z2 (List.replicate 8 (0 : Int)).length cz2) 3 (List.replicate 8 (0 : Int)), Own.of (.slice Z1 image.f.length cz1) 41 image.f] := hS18
    refine ge_nil fun a hF => hKK _ _ (RS.of2 (l := []) (by kernel_rfl) trivial trivial) ?_ a hF
    have hS20 := hS19.bring 3 rfl
    have hS21 := hS20.bring 3 rfl
    have hS22 := hS21.bring 2 rfl
    have hS23 := hS22.bring 3 rfl
    have hS24 := hS23.takeN 4
    obtain rfl := si h
    exact go_fin3 fun a hF => hQ _ _ _ (Outs.again ⟨b4, b5, (.slice Z3 r1.1.Vars.length cz3), (.slice Z4 r1.1.Puts.length cz4), hS24, hF.weaken ea⟩)
   exact go_nomore3
  exact go_nomore3
 refine go3_join works.t1_17 (fun (x : Nat × (Option Addr) × Nat × (Option Addr) × Nat × (SEnded × SFault) × Value × Value × Nat) e w => match x with | (b3, Z1, cz1, Z2, cz2, r1, v5, v6, b4) => e = [(0, .bool false), (1, pP b4 0), (8, .agg #[v5, v6, vI r1.1.Steps]), (9, .agg #[vI r1.2.Code, vI r1.2.At])] ∧ (mach_Run.f K image.f (List.replicate 8 (0 : Int)) ([5, 0, 0, 0] : List Int) = some r1) ∧ St w0 w [Own.blk b4 (.cells #[.slice none 0 0, .slice none 0 0, vI 0] 36 (0, 0)), Own.of v5 3 r1.1.Vars, Own.of v6 56 r1.1.Puts, Own.blk b3 (.cells #[vI 5, vI 0, vI 0, vI 0] 3 (0, 0)), Own.of (.slice Z2 (List.replicate 8 (0 : Int)).length cz2) 3 (List.replicate 8 (0 : Int)), Own.of (.slice Z1 image.f.length cz1) 41 image.f]) ?_ fun hJ1_2 => ?_
 ·rintro ⟨b3, Z1, cz1, Z2, cz2, r1, v5, v6, b4⟩ _ W3 ⟨rfl, hq2, hS11⟩
  replace hS11 : St w0 W3 [Own.blk b4 (.cells #[.slice none 0 0, .slice none 0 0, vI 0] 36 (0, 0)), Own.of v5 3 r1.1.Vars, Own.of v6 56 r1.1.Puts, Own.blk b3 (.cells #[vI 5, vI 0, vI 0, vI 0] 3 (0, 0)), Own.of (.slice Z2 (List.replicate 8 (0 : Int)).length cz2) 3 (List.replicate 8 (0 : Int)), Own.of (.slice Z1 image.f.length cz1) 41 image.f] := hS11
  rw [hq2] at h
  simp only [] at h
  refine go_alt3 (fun KK hKK => ?_) ?_
  ·refine ge_one2 ?_
   refine gw (some 2) (.cells #[vI 0, vI 0] 29) (fun b => pP b 0) hS11 fun b5 w6 hx3 hS12 => ?_
   refine ge_nil fun a hF => hKK _ _ (RS.of2 (l := []) (by kernel_rfl) trivial trivial) ?_ a hF
   have hS25 := hS12.bring 6 rfl
   have hS26 := hS25.bring 6 rfl
   have hS27 := hS26.bring 6 rfl
   have hS28 := hS27.bring 6 rfl
   have hS29 := hS28.bring 6 rfl
   have hS30 := hS29.bring 6 rfl
   have hS31 := hS30.bring 6 rfl
   exact go3_keep [(0, .bool false), (1, pP b4 0), (2, pP b5 0), (8, .agg #[v5, v6, vI r1.1.Steps]), (9, .agg #[vI r1.2.Code, vI r1.2.At])] ea (hJ1_3 (b3, Z1, cz1, Z2, cz2, r1, v5, v6, b4, b5) _ _ ⟨rfl, hq2, hS31⟩)
  exact go_nomore3
 refine go3_join works.t1_9 (fun (x : Nat × (Option Addr) × Nat × (Option Addr) × Nat × (SEnded × SFault) × Value × Value × Nat) e w => match x with | (b3, Z1, cz1, Z2, cz2, r1, v5, v6, b4) => e = [(0, .bool false), (2, pP b4 0), (8, .agg #[v5, v6, vI r1.1.Steps]), (9, .agg #[vI r1.2.Code, vI r1.2.At])] ∧ (mach_Run.f K image.f (List.replicate 8 (0 : Int)) ([5, 0, 0, 0] : List Int) = some r1) ∧ St w0 w [Own.blk b4 (.cells #[vI 0, vI 0] 29 (0, 0)), Own.of v5 3 r1.1.Vars, Own.of v6 56 r1.1.Puts, Own.blk b3 (.cells #[vI 5, vI 0, vI 0, vI 0] 3 (0, 0)), Own.of (.slice Z2 (List.replicate 8 (0 : Int)).length cz2) 3 (List.replicate 8 (0 : Int)), Own.of (.slice Z1 image.f.length cz1) 41 image.f]) ?_ fun hJ1_4 => ?_
 ·rintro ⟨b3, Z1, cz1, Z2, cz2, r1, v5, v6, b4⟩ _ W3 ⟨rfl, hq2, hS11⟩
  replace hS11 : St w0 W3 [Own.blk b4 (.cells #[vI 0, vI 0] 29 (0, 0)), Own.of v5 3 r1.1.Vars, Own.of v6 56 r1.1.Puts, Own.blk b3 (.cells #[vI 5, vI 0, vI 0, vI 0] 3 (0, 0)), Own.of (.slice Z2 (List.replicate 8 (0 : Int)).length cz2) 3 (List.replicate 8 (0 : Int)), Own.of (.slice Z1 image.f.length cz1) 41 image.f] := hS11
  rw [hq2] at h
  simp only [] at h
  refine go_alt3 (fun KK hKK => ?_) ?_
  ·refine ge_one2 ?_
   refine gw (some 1) (.cells #[.slice none 0 0, .slice none 0 0, vI 0] 36) (fun b => pP b 0) hS11 fun b5 w6 hx3 hS12 => ?_
   refine ge_nil fun a hF => hKK _ _ (RS.of2 (l := []) (by kernel_rfl) trivial trivial) ?_ a hF
   have hS13 := hS12.bring 6 rfl
   have hS14 := hS13.bring 6 rfl
   have hS15 := hS14.bring 6 rfl
   have hS16 := hS15.bring 6 rfl
   have hS17 := hS16.bring 6 rfl
   have hS18 := hS17.bring 5 rfl
   have hS19 := hS18.bring 6 rfl
   exact go3_keep [(0, .bool false), (1, pP b5 0), (2, pP b4 0), (8, .agg #[v5, v6, vI r1.1.Steps]), (9, .agg #[vI r1.2.Code, vI r1.2.At])] ea (hJ1_3 (b3, Z1, cz1, Z2, cz2, r1, v5, v6, b5, b4) _ _ ⟨rfl, hq2, hS19⟩)
  exact go_nomore3
 refine go3_join works.t1_1 (fun (x : Value × Value × Nat × Nat × Nat) e w => match x with | (v3, v4, b3, b4, b5) => e = [(0, .bool false), (1, pP b4 0), (2, pP b5 0), (4, v3), (5, v4), (6, .slice (some ⟨b3, 0, none⟩) 4 4)] ∧ St w0 w [Own.blk b5 (.cells #[vI 0, vI 0] 29 (0, 0)), Own.blk b4 (.cells #[.slice none 0 0, .slice none 0 0, vI 0] 36 (0, 0)), Own.blk b3 (.cells #[vI 5, vI 0, vI 0, vI 0] 3 (0, 0)), Own.of v4 3 (List.replicate 8 (0 : Int)), Own.of v3 41 image.f]) ?_ fun hJ1_6 => ?_
 ·rintro ⟨v3, v4, b3, b4, b5⟩ _ W4 ⟨rfl, hS11⟩
  replace hS11 : St w0 W4 [Own.blk b5 (.cells #[vI 0, vI 0] 29 (0, 0)), Own.blk b4 (.cells #[.slice none 0 0, .slice none 0 0, vI 0] 36 (0, 0)), Own.blk b3 (.cells #[vI 5, vI 0, vI 0, vI 0] 3 (0, 0)), Own.of v4 3 (List.replicate 8 (0 : Int)), Own.of v3 41 image.f] := hS11
  refine go_alt3 (fun KK hKK => ?_) ?_
  ·refine ge_one2 ?_
   obtain ⟨Z1, cz1, rfl⟩ := hS11.open 4 rfl
   obtain ⟨Z2, cz2, rfl⟩ := hS11.open 3 rfl
   rcases hq2 : mach_Run.f K image.f (List.replicate 8 (0 : Int)) ([5, 0, 0, 0] : List Int) with _ | r1
   ·rw [hq2] at h; cases h
   rw [hq2] at h
   simp only [] at h
   refine ge_call (d := some 7) (f := 10) (args := #[(.slice Z1 image.f.length cz1), (.slice Z2 (List.replicate 8 (0 : Int)).length cz2), .slice (some ⟨b3, 0, none⟩) 4 4]) (by kernel_rfl) (mach_Run_ok K image.f Z1 cz1 (List.replicate 8 (0 : Int)) Z2 cz2 ([5, 0, 0, 0] : List Int) (some ⟨b3, 0, none⟩) 4 _ (hS11.rdAt 4 rfl) (hS11.capAt 4 rfl) (hS11.rdAt 3 rfl) (hS11.capAt 3 rfl) (hS11.rdBlk 2 ([5, 0, 0, 0] : List Int) rfl rfl rfl) (Nat.le_refl _) _ hq2) ?_
   rintro _ w6 ⟨v5, v6, rfl, hS12⟩
   refine ⟨_, rfl, hS12.below, ?_⟩
   have hS13 := hS11.call hS12
   refine ge_nil fun a hF => hKK _ _ (RS.of2 (l := []) (by kernel_rfl) trivial trivial) ?_ a hF
   refine go3_batch [4, 5, 6] (ans := []) (vs := [(9, .agg #[vI r1.2.Code, vI r1.2.At]), (8, .agg #[v5, v6, vI r1.1.Steps]), (3, .tuple #[.agg #[v5, v6, vI r1.1.Steps], .agg #[vI r1.2.Code, vI r1.2.At]])]) (l := []) (by kernel_rfl) trivial mem_nil3 ?_
   have hS14 := hS13.bring 6 rfl
   have hS15 := hS14.bring 6 rfl
   have hS16 := hS15.bring 6 rfl
   have hS17 := hS16.bring 4 rfl
   have hS18 := hS17.bring 4 rfl
   have hS19 := hS18.bring 6 rfl
   have hS20 := hS19.bring 6 rfl
   exact go3_keep [(0, .bool false), (1, pP b4 0), (2, pP b5 0), (8, .agg #[v5, v6, vI r1.1.Steps]), (9, .agg #[vI r1.2.Code, vI r1.2.At])] ea (hJ1_3 (b3, Z1, cz1, Z2, cz2, r1, v5, v6, b4, b5) _ _ ⟨rfl, hq2, hS20⟩)
  exact go_nomore3
 refine go3_join works.t1_18 (fun (x : Value × Value × Nat × Nat) e w => match x with | (v3, v4, b3, b4) => e = [(0, .bool false), (1, pP b4 0), (4, v3), (5, v4), (6, .slice (some ⟨b3, 0, none⟩) 4 4)] ∧ St w0 w [Own.blk b4 (.cells #[.slice none 0 0, .slice none 0 0, vI 0] 36 (0, 0)), Own.blk b3 (.cells #[vI 5, vI 0, vI 0, vI 0] 3 (0, 0)), Own.of v4 3 (List.replicate 8 (0 : Int)), Own.of v3 41 image.f]) ?_ fun hJ1_5 => ?_
 ·rintro ⟨v3, v4, b3, b4⟩ _ W3 ⟨rfl, hS9⟩
  replace hS9 : St w0 W3 [Own.blk b4 (.cells #[.slice none 0 0, .slice none 0 0, vI 0] 36 (0, 0)), Own.blk b3 (.cells #[vI 5, vI 0, vI 0, vI 0] 3 (0, 0)), Own.of v4 3 (List.replicate 8 (0 : Int)), Own.of v3 41 image.f] := hS9
  refine go_alt3 (fun KK hKK => ?_) ?_
  ·refine ge_one2 ?_
   obtain ⟨Z1, cz1, rfl⟩ := hS9.open 3 rfl
   obtain ⟨Z2, cz2, rfl⟩ := hS9.open 2 rfl
   rcases hq2 : mach_Run.f K image.f (List.replicate 8 (0 : Int)) ([5, 0, 0, 0] : List Int) with _ | r1
   ·rw [hq2] at h; cases h
   rw [hq2] at h
   simp only [] at h
   refine ge_call (d := some 7) (f := 10) (args := #[(.slice Z1 image.f.length cz1), (.slice Z2 (List.replicate 8 (0 : Int)).length cz2), .slice (some ⟨b3, 0, none⟩) 4 4]) (by kernel_rfl) (mach_Run_ok K image.f Z1 cz1 (List.replicate 8 (0 : Int)) Z2 cz2 ([5, 0, 0, 0] : List Int) (some ⟨b3, 0, none⟩) 4 _ (hS9.rdAt 3 rfl) (hS9.capAt 3 rfl) (hS9.rdAt 2 rfl) (hS9.capAt 2 rfl) (hS9.rdBlk 1 ([5, 0, 0, 0] : List Int) rfl rfl rfl) (Nat.le_refl _) _ hq2) ?_
   rintro _ w5 ⟨v5, v6, rfl, hS10⟩
   refine ⟨_, rfl, hS10.below, ?_⟩
   have hS11 := hS9.call hS10
   refine ge_nil fun a hF => hKK _ _ (RS.of2 (l := []) (by kernel_rfl) trivial trivial) ?_ a hF
   refine go3_batch [4, 5, 6] (ans := []) (vs := [(9, .agg #[vI r1.2.Code, vI r1.2.At]), (8, .agg #[v5, v6, vI r1.1.Steps]), (3, .tuple #[.agg #[v5, v6, vI r1.1.Steps], .agg #[vI r1.2.Code, vI r1.2.At]])]) (l := []) (by kernel_rfl) trivial mem_nil3 ?_
   have hS12 := hS11.bring 5 rfl
   have hS13 := hS12.bring 5 rfl
   have hS14 := hS13.bring 5 rfl
   have hS15 := hS14.bring 4 rfl
   have hS16 := hS15.bring 4 rfl
   have hS17 := hS16.bring 5 rfl
   exact go3_keep [(0, .bool false), (1, pP b4 0), (8, .agg #[v5, v6, vI r1.1.Steps]), (9, .agg #[vI r1.2.Code, vI r1.2.At])] ea (hJ1_2 (b3, Z1, cz1, Z2, cz2, r1, v5, v6, b4) _ _ ⟨rfl, hq2, hS17⟩)
  refine go_alt3 (fun KK hKK => ?_) ?_
  ·refine ge_one2 ?_
   refine gw (some 2) (.cells #[vI 0, vI 0] 29) (fun b => pP b 0) hS9 fun b5 w5 hx3 hS10 => ?_
   refine ge_nil fun a hF => hKK _ _ (RS.of2 (l := []) (by kernel_rfl) trivial trivial) ?_ a hF
   have hS21 := hS10.bring 4 rfl
   have hS22 := hS21.bring 4 rfl
   have hS23 := hS22.bring 4 rfl
   have hS24 := hS23.bring 4 rfl
   have hS25 := hS24.bring 4 rfl
   exact go3_keep [(0, .bool false), (1, pP b4 0), (2, pP b5 0), (4, v3), (5, v4), (6, .slice (some ⟨b3, 0, none⟩) 4 4)] ea (hJ1_6 (v3, v4, b3, b4, b5) _ _ ⟨rfl, hS25⟩)
  exact go_nomore3
 refine go3_join works.t1_10 (fun (x : Value × Value × Nat × Nat) e w => match x with | (v3, v4, b3, b4) => e = [(0, .bool false), (2, pP b4 0), (4, v3), (5, v4), (6, .slice (some ⟨b3, 0, none⟩) 4 4)] ∧ St w0 w [Own.blk b4 (.cells #[vI 0, vI 0] 29 (0, 0)), Own.blk b3 (.cells #[vI 5, vI 0, vI 0, vI 0] 3 (0, 0)), Own.of v4 3 (List.replicate 8 (0 : Int)), Own.of v3 41 image.f]) ?_ fun hJ1_7 => ?_
 ·rintro ⟨v3, v4, b3, b4⟩ _ W3 ⟨rfl, hS9⟩
  replace hS9 : St w0 W3 [Own.blk b4 (.cells #[vI 0, vI 0] 29 (0, 0)), Own.blk b3 (.cells #[vI 5, vI 0, vI 0, vI 0] 3 (0, 0)), Own.of v4 3 (List.replicate 8 (0 : Int)), Own.of v3 41 image.f] := hS9
  refine go_alt3 (fun KK hKK => ?_) ?_
  ·refine ge_one2 ?_
   obtain ⟨Z1, cz1, rfl⟩ := hS9.open 3 rfl
   obtain ⟨Z2, cz2, rfl⟩ := hS9.open 2 rfl
   rcases hq2 : mach_Run.f K image.f (List.replicate 8 (0 : Int)) ([5, 0, 0, 0] : List Int) with _ | r1
   ·rw [hq2] at h; cases h
   rw [hq2] at h
   simp only [] at h
   refine ge_call (d := some 7) (f := 10) (args := #[(.slice Z1 image.f.length cz1), (.slice Z2 (List.replicate 8 (0 : Int)).length cz2), .slice (some ⟨b3, 0, none⟩) 4 4]) (by kernel_rfl) (mach_Run_ok K image.f Z1 cz1 (List.replicate 8 (0 : Int)) Z2 cz2 ([5, 0, 0, 0] : List Int) (some ⟨b3, 0, none⟩) 4 _ (hS9.rdAt 3 rfl) (hS9.capAt 3 rfl) (hS9.rdAt 2 rfl) (hS9.capAt 2 rfl) (hS9.rdBlk 1 ([5, 0, 0, 0] : List Int) rfl rfl rfl) (Nat.le_refl _) _ hq2) ?_
   rintro _ w5 ⟨v5, v6, rfl, hS10⟩
   refine ⟨_, rfl, hS10.below, ?_⟩
   have hS11 := hS9.call hS10
   refine ge_nil fun a hF => hKK _ _ (RS.of2 (l := []) (by kernel_rfl) trivial trivial) ?_ a hF
   refine go3_batch [4, 5, 6] (ans := []) (vs := [(9, .agg #[vI r1.2.Code, vI r1.2.At]), (8, .agg #[v5, v6, vI r1.1.Steps]), (3, .tuple #[.agg #[v5, v6, vI r1.1.Steps], .agg #[vI r1.2.Code, vI r1.2.At]])]) (l := []) (by kernel_rfl) trivial mem_nil3 ?_
   have hS12 := hS11.bring 5 rfl
   have hS13 := hS12.bring 5 rfl
   have hS14 := hS13.bring 5 rfl
   have hS15 := hS14.bring 4 rfl
   have hS16 := hS15.bring 4 rfl
   have hS17 := hS16.bring 5 rfl
   exact go3_keep [(0, .bool false), (2, pP b4 0), (8, .agg #[v5, v6, vI r1.1.Steps]), (9, .agg #[vI r1.2.Code, vI r1.2.At])] ea (hJ1_4 (b3, Z1, cz1, Z2, cz2, r1, v5, v6, b4) _ _ ⟨rfl, hq2, hS17⟩)
  refine go_alt3 (fun KK hKK => ?_) ?_
  ·refine ge_one2 ?_
   refine gw (some 1) (.cells #[.slice none 0 0, .slice none 0 0, vI 0] 36) (fun b => pP b 0) hS9 fun b5 w5 hx3 hS10 => ?_
   refine ge_nil fun a hF => hKK _ _ (RS.of2 (l := []) (by kernel_rfl) trivial trivial) ?_ a hF
   have hS11 := hS10.bring 4 rfl
   have hS12 := hS11.bring 4 rfl
   have hS13 := hS12.bring 4 rfl
   have hS14 := hS13.bring 3 rfl
   have hS15 := hS14.bring 4 rfl
   exact go3_keep [(0, .bool false), (1, pP b5 0), (2, pP b4 0), (4, v3), (5, v4), (6, .slice (some ⟨b3, 0, none⟩) 4 4)] ea (hJ1_6 (v3, v4, b3, b5, b4) _ _ ⟨rfl, hS15⟩)
  exact go_nomore3
 refine go3_join works.t1_25 (fun (x : Value × Value × Nat) e w => match x with | (v3, v4, b3) => e = [(0, .bool false), (4, v3), (5, v4), (6, .slice (some ⟨b3, 0, none⟩) 4 4)] ∧ St w0 w [Own.blk b3 (.cells #[vI 5, vI 0, vI 0, vI 0] 3 (0, 0)), Own.of v4 3 (List.replicate 8 (0 : Int)), Own.of v3 41 image.f]) ?_ fun hJ1_1 => ?_
 ·rintro ⟨v3, v4, b3⟩ _ W2 ⟨rfl, hS7⟩
  replace hS7 : St w0 W2 [Own.blk b3 (.cells #[vI 5, vI 0, vI 0, vI 0] 3 (0, 0)), Own.of v4 3 (List.replicate 8 (0 : Int)), Own.of v3 41 image.f] := hS7
  refine go_alt3 (fun KK hKK => ?_) ?_
  ·refine ge_one2 ?_
   obtain ⟨Z1, cz1, rfl⟩ := hS7.open 2 rfl
   obtain ⟨Z2, cz2, rfl⟩ := hS7.open 1 rfl
   rcases hq2 : mach_Run.f K image.f (List.replicate 8 (0 : Int)) ([5, 0, 0, 0] : List Int) with _ | r1
   ·rw [hq2] at h; cases h
   rw [hq2] at h
   simp only [] at h
   refine ge_call (d := some 7) (f := 10) (args := #[(.slice Z1 image.f.length cz1), (.slice Z2 (List.replicate 8 (0 : Int)).length cz2), .slice (some ⟨b3, 0, none⟩) 4 4]) (by kernel_rfl) (mach_Run_ok K image.f Z1 cz1 (List.replicate 8 (0 : Int)) Z2 cz2 ([5, 0, 0, 0] : List Int) (some ⟨b3, 0, none⟩) 4 _ (hS7.rdAt 2 rfl) (hS7.capAt 2 rfl) (hS7.rdAt 1 rfl) (hS7.capAt 1 rfl) (hS7.rdBlk 0 ([5, 0, 0, 0] : List Int) rfl rfl rfl) (Nat.le_refl _) _ hq2) ?_
   rintro _ w4 ⟨v5, v6, rfl, hS8⟩
   refine ⟨_, rfl, hS8.below, ?_⟩
   have hS9 := hS7.call hS8
   refine ge_nil fun a hF => hKK _ _ (RS.of2 (l := []) (by kernel_rfl) trivial trivial) ?_ a hF
   refine go3_batch [4, 5, 6] (ans := []) (vs := [(9, .agg #[vI r1.2.Code, vI r1.2.At]), (8, .agg #[v5, v6, vI r1.1.Steps]), (3, .tuple #[.agg #[v5, v6, vI r1.1.Steps], .agg #[vI r1.2.Code, vI r1.2.At]])]) (l := []) (by kernel_rfl) trivial mem_nil3 ?_
   refine go_alt3 (fun KK hKK => ?_) ?_
   ·refine ge_one2 ?_
    refine gw (some 1) (.cells #[.slice none 0 0, .slice none 0 0, vI 0] 36) (fun b => pP b 0) hS9 fun b4 w5 hx2 hS10 => ?_
    refine ge_nil fun a hF => hKK _ _ (RS.of2 (l := []) (by kernel_rfl) trivial trivial) ?_ a hF
    have hS32 := hS10.bring 5 rfl
    have hS33 := hS32.bring 5 rfl
    have hS34 := hS33.bring 5 rfl
    have hS35 := hS34.bring 5 rfl
    have hS36 := hS35.bring 5 rfl
    have hS37 := hS36.bring 5 rfl
    exact go3_keep [(0, .bool false), (1, pP b4 0), (8, .agg #[v5, v6, vI r1.1.Steps]), (9, .agg #[vI r1.2.Code, vI r1.2.At])] ea (hJ1_2 (b3, Z1, cz1, Z2, cz2, r1, v5, v6, b4) _ _ ⟨rfl, hq2, hS37⟩)
   refine go_alt3 (fun KK hKK => ?_) ?_
   ·refine ge_one2 ?_
    refine gw (some 2) (.cells #[vI 0, vI 0] 29) (fun b => pP b 0) hS9 fun b4 w5 hx2 hS10 => ?_
    refine ge_nil fun a hF => hKK _ _ (RS.of2 (l := []) (by kernel_rfl) trivial trivial) ?_ a hF
    have hS20 := hS10.bring 5 rfl
    have hS21 := hS20.bring 5 rfl
    have hS22 := hS21.bring 5 rfl
    have hS23 := hS22.bring 5 rfl
    have hS24 := hS23.bring 5 rfl
    have hS25 := hS24.bring 5 rfl
    exact go3_keep [(0, .bool false), (2, pP b4 0), (8, .agg #[v5, v6, vI r1.1.Steps]), (9, .agg #[vI r1.2.Code, vI r1.2.At])] ea (hJ1_4 (b3, Z1, cz1, Z2, cz2, r1, v5, v6, b4) _ _ ⟨rfl, hq2, hS25⟩)
   exact go_nomore3
  refine go_alt3 (fun KK hKK => ?_) ?_
  ·refine ge_one2 ?_
   refine gw (some 1) (.cells #[.slice none 0 0, .slice none 0 0, vI 0] 36) (fun b => pP b 0) hS7 fun b4 w4 hx2 hS8 => ?_
   refine ge_nil fun a hF => hKK _ _ (RS.of2 (l := []) (by kernel_rfl) trivial trivial) ?_ a hF
   have hS26 := hS8.bring 3 rfl
   have hS27 := hS26.bring 3 rfl
   have hS28 := hS27.bring 3 rfl
   have hS29 := hS28.bring 3 rfl
   exact go3_keep [(0, .bool false), (1, pP b4 0), (4, v3), (5, v4), (6, .slice (some ⟨b3, 0, none⟩) 4 4)] ea (hJ1_5 (v3, v4, b3, b4) _ _ ⟨rfl, hS29⟩)
  refine go_alt3 (fun KK hKK => ?_) ?_
  ·refine ge_one2 ?_
   refine gw (some 2) (.cells #[vI 0, vI 0] 29) (fun b => pP b 0) hS7 fun b4 w4 hx2 hS8 => ?_
   refine ge_nil fun a hF => hKK _ _ (RS.of2 (l := []) (by kernel_rfl) trivial trivial) ?_ a hF
   have hS16 := hS8.bring 3 rfl
   have hS17 := hS16.bring 3 rfl
   have hS18 := hS17.bring 3 rfl
   have hS19 := hS18.bring 3 rfl
   exact go3_keep [(0, .bool false), (2, pP b4 0), (4, v3), (5, v4), (6, .slice (some ⟨b3, 0, none⟩) 4 4)] ea (hJ1_7 (v3, v4, b3, b4) _ _ ⟨rfl, hS19⟩)
  exact go_nomore3
 refine go3_join works.t1_5 (fun (x : Value × Value × Nat × Nat) e w => match x with | (v3, v4, b3, b4) => e = [(0, .bool false), (1, pP b3 0), (2, pP b4 0), (4, v3), (5, v4)] ∧ St w0 w [Own.blk b4 (.cells #[vI 0, vI 0] 29 (0, 0)), Own.blk b3 (.cells #[.slice none 0 0, .slice none 0 0, vI 0] 36 (0, 0)), Own.of v4 3 (List.replicate 8 (0 : Int)), Own.of v3 41 image.f]) ?_ fun hJ1_9 => ?_
 ·rintro ⟨v3, v4, b3, b4⟩ _ W3 ⟨rfl, hS9⟩
  replace hS9 : St w0 W3 [Own.blk b4 (.cells #[vI 0, vI 0] 29 (0, 0)), Own.blk b3 (.cells #[.slice none 0 0, .slice none 0 0, vI 0] 36 (0, 0)), Own.of v4 3 (List.replicate 8 (0 : Int)), Own.of v3 41 image.f] := hS9
  refine go_alt3 (fun KK hKK => ?_) ?_
  ·refine ge_one2 ?_
   refine gw (some 6) (.cells #[vI 5, vI 0, vI 0, vI 0] 3) (fun b => .slice (some ⟨b, 0, none⟩) 4 4) hS9 fun b5 w5 hx3 hS10 => ?_
   refine ge_nil fun a hF => hKK _ _ (RS.of2 (l := []) (by kernel_rfl) trivial trivial) ?_ a hF
   have hS11 := hS10.bring 4 rfl
   have hS12 := hS11.bring 4 rfl
   have hS13 := hS12.bring 2 rfl
   have hS14 := hS13.bring 4 rfl
   have hS15 := hS14.bring 4 rfl
   exact go3_keep [(0, .bool false), (1, pP b3 0), (2, pP b4 0), (4, v3), (5, v4), (6, .slice (some ⟨b5, 0, none⟩) 4 4)] ea (hJ1_6 (v3, v4, b5, b3, b4) _ _ ⟨rfl, hS15⟩)
  exact go_nomore3
 refine go3_join works.t1_22 (fun (x : Value × Value × Nat) e w => match x with | (v3, v4, b3) => e = [(0, .bool false), (1, pP b3 0), (4, v3), (5, v4)] ∧ St w0 w [Own.blk b3 (.cells #[.slice none 0 0, .slice none 0 0, vI 0] 36 (0, 0)), Own.of v4 3 (List.replicate 8 (0 : Int)), Own.of v3 41 image.f]) ?_ fun hJ1_8 => ?_
 ·rintro ⟨v3, v4, b3⟩ _ W2 ⟨rfl, hS7⟩
  replace hS7 : St w0 W2 [Own.blk b3 (.cells #[.slice none 0 0, .slice none 0 0, vI 0] 36 (0, 0)), Own.of v4 3 (List.replicate 8 (0 : Int)), Own.of v3 41 image.f] := hS7
  refine go_alt3 (fun KK hKK => ?_) ?_
  ·refine ge_one2 ?_
   refine gw (some 6) (.cells #[vI 5, vI 0, vI 0, vI 0] 3) (fun b => .slice (some ⟨b, 0, none⟩) 4 4) hS7 fun b4 w4 hx2 hS8 => ?_
   refine ge_nil fun a hF => hKK _ _ (RS.of2 (l := []) (by kernel_rfl) trivial trivial) ?_ a hF
   have hS9 := hS8.bring 3 rfl
   have hS10 := hS9.bring 3 rfl
   have hS11 := hS10.bring 2 rfl
   have hS12 := hS11.bring 3 rfl
   exact go3_keep [(0, .bool false), (1, pP b3 0), (4, v3), (5, v4), (6, .slice (some ⟨b4, 0, none⟩) 4 4)] ea (hJ1_5 (v3, v4, b4, b3) _ _ ⟨rfl, hS12⟩)
  refine go_alt3 (fun KK hKK => ?_) ?_
  ·refine ge_one2 ?_
   refine gw (some 2) (.cells #[vI 0, vI 0] 29) (fun b => pP b 0) hS7 fun b4 w4 hx2 hS8 => ?_
   refine ge_nil fun a hF => hKK _ _ (RS.of2 (l := []) (by kernel_rfl) trivial trivial) ?_ a hF
   have hS16 := hS8.bring 3 rfl
   have hS17 := hS16.bring 3 rfl
   have hS18 := hS17.bring 3 rfl
   have hS19 := hS18.bring 3 rfl
   exact go3_keep [(0, .bool false), (1, pP b3 0), (2, pP b4 0), (4, v3), (5, v4)] ea (hJ1_9 (v3, v4, b3, b4) _ _ ⟨rfl, hS19⟩)
  exact go_nomore3
 refine go3_join works.t1_14 (fun (x : Value × Value × Nat) e w => match x with | (v3, v4, b3) => e = [(0, .bool false), (2, pP b3 0), (4, v3), (5, v4)] ∧ St w0 w [Own.blk b3 (.cells #[vI 0, vI 0] 29 (0, 0)), Own.of v4 3 (List.replicate 8 (0 : Int)), Own.of v3 41 image.f]) ?_ fun hJ1_10 => ?_
 ·rintro ⟨v3, v4, b3⟩ _ W2 ⟨rfl, hS7⟩
  replace hS7 : St w0 W2 [Own.blk b3 (.cells #[vI 0, vI 0] 29 (0, 0)), Own.of v4 3 (List.replicate 8 (0 : Int)), Own.of v3 41 image.f] := hS7
  refine go_alt3 (fun KK hKK => ?_) ?_
  ·refine ge_one2 ?_
   refine gw (some 6) (.cells #[vI 5, vI 0, vI 0, vI 0] 3) (fun b => .slice (some ⟨b, 0, none⟩) 4 4) hS7 fun b4 w4 hx2 hS8 => ?_
   refine ge_nil fun a hF => hKK _ _ (RS.of2 (l := []) (by kernel_rfl) trivial trivial) ?_ a hF
   have hS9 := hS8.bring 3 rfl
   have hS10 := hS9.bring 3 rfl
   have hS11 := hS10.bring 2 rfl
   have hS12 := hS11.bring 3 rfl
   exact go3_keep [(0, .bool false), (2, pP b3 0), (4, v3), (5, v4), (6, .slice (some ⟨b4, 0, none⟩) 4 4)] ea (hJ1_7 (v3, v4, b4, b3) _ _ ⟨rfl, hS12⟩)
  refine go_alt3 (fun KK hKK => ?_) ?_
  ·refine ge_one2 ?_
   refine gw (some 1) (.cells #[.slice none 0 0, .slice none 0 0, vI 0] 36) (fun b => pP b 0) hS7 fun b4 w4 hx2 hS8 => ?_
   refine ge_nil fun a hF => hKK _ _ (RS.of2 (l := []) (by kernel_rfl) trivial trivial) ?_ a hF
   have hS9 := hS8.bring 3 rfl
   have hS10 := hS9.bring 3 rfl
   have hS11 := hS10.bring 2 rfl
   have hS12 := hS11.bring 3 rfl
   exact go3_keep [(0, .bool false), (1, pP b4 0), (2, pP b3 0), (4, v3), (5, v4)] ea (hJ1_9 (v3, v4, b4, b3) _ _ ⟨rfl, hS12⟩)
  exact go_nomore3
 refine go3_join works.t1_28 (fun (x : Value × Value) e w => match x with | (v3, v4) => e = [(0, .bool false), (4, v3), (5, v4)] ∧ St w0 w [Own.of v4 3 (List.replicate 8 (0 : Int)), Own.of v3 41 image.f]) ?_ fun hJ1_0 => ?_
 ·rintro ⟨v3, v4⟩ _ W1 ⟨rfl, hS5⟩
  replace hS5 : St w0 W1 [Own.of v4 3 (List.replicate 8 (0 : Int)), Own.of v3 41 image.f] := hS5
  refine go_alt3 (fun KK hKK => ?_) ?_
  ·refine ge_one2 ?_
   refine gw (some 6) (.cells #[vI 5, vI 0, vI 0, vI 0] 3) (fun b => .slice (some ⟨b, 0, none⟩) 4 4) hS5 fun b3 w3 hx1 hS6 => ?_
   refine ge_nil fun a hF => hKK _ _ (RS.of2 (l := []) (by kernel_rfl) trivial trivial) ?_ a hF
   have hS20 := hS6.bring 2 rfl
   have hS21 := hS20.bring 2 rfl
   have hS22 := hS21.bring 2 rfl
   exact go3_keep [(0, .bool false), (4, v3), (5, v4), (6, .slice (some ⟨b3, 0, none⟩) 4 4)] ea (hJ1_1 (v3, v4, b3) _ _ ⟨rfl, hS22⟩)
  refine go_alt3 (fun KK hKK => ?_) ?_
  ·refine ge_one2 ?_
   refine gw (some 1) (.cells #[.slice none 0 0, .slice none 0 0, vI 0] 36) (fun b => pP b 0) hS5 fun b3 w3 hx1 hS6 => ?_
   refine ge_nil fun a hF => hKK _ _ (RS.of2 (l := []) (by kernel_rfl) trivial trivial) ?_ a hF
   have hS20 := hS6.bring 2 rfl
   have hS21 := hS20.bring 2 rfl
   have hS22 := hS21.bring 2 rfl
   exact go3_keep [(0, .bool false), (1, pP b3 0), (4, v3), (5, v4)] ea (hJ1_8 (v3, v4, b3) _ _ ⟨rfl, hS22⟩)
  refine go_alt3 (fun KK hKK => ?_) ?_
  ·refine ge_one2 ?_
   refine gw (some 2) (.cells #[vI 0, vI 0] 29) (fun b => pP b 0) hS5 fun b3 w3 hx1 hS6 => ?_
   refine ge_nil fun a hF => hKK _ _ (RS.of2 (l := []) (by kernel_rfl) trivial trivial) ?_ a hF
   have hS13 := hS6.bring 2 rfl
   have hS14 := hS13.bring 2 rfl
   have hS15 := hS14.bring 2 rfl
   exact go3_keep [(0, .bool false), (2, pP b3 0), (4, v3), (5, v4)] ea (hJ1_10 (v3, v4, b3) _ _ ⟨rfl, hS15⟩)
  exact go_nomore3
 refine go3_join works.t1_3 (fun (x : Value × Nat × Nat × Nat) e w => match x with | (v3, b3, b4, b5) => e = [(0, .bool false), (1, pP b4 0), (2, pP b5 0), (4, v3), (6, .slice (some ⟨b3, 0, none⟩) 4 4)] ∧ St w0 w [Own.blk b5 (.cells #[vI 0, vI 0] 29 (0, 0)), Own.blk b4 (.cells #[.slice none 0 0, .slice none 0 0, vI 0] 36 (0, 0)), Own.blk b3 (.cells #[vI 5, vI 0, vI 0, vI 0] 3 (0, 0)), Own.of v3 41 image.f]) ?_ fun hJ1_13 => ?_
 ·rintro ⟨v3, b3, b4, b5⟩ _ W3 ⟨rfl, hS9⟩
  replace hS9 : St w0 W3 [Own.blk b5 (.cells #[vI 0, vI 0] 29 (0, 0)), Own.blk b4 (.cells #[.slice none 0 0, .slice none 0 0, vI 0] 36 (0, 0)), Own.blk b3 (.cells #[vI 5, vI 0, vI 0, vI 0] 3 (0, 0)), Own.of v3 41 image.f] := hS9
  refine go_alt3 (fun KK hKK => ?_) ?_
  ·refine ge_one2 ?_
   refine ge_make (α := Int) (d := 5) (t := 23) (el := 3) (bytes := 8) (l := 8) (c := 8) (x := (.const (vI 8))) (y := (.const (vI 8))) (ty := 23) (k1 := .i64) (k2 := .i64) (li := 8) (ci := 8) (z := vI 0) (z' := (0 : Int)) (by kernel_rfl) (by kernel_rfl) (by kernel_rfl) rfl rfl (by kernel_rfl) (by kernel_rfl) rfl hS9 (Nat.le_refl _) rfl (by omega) fun v4 w5 _ hS10 => ?_
   refine ge_nil fun a hF => hKK _ _ (RS.of2 (l := []) (by kernel_rfl) trivial trivial) ?_ a hF
   have hS11 := hS10.bring 4 rfl
   have hS12 := hS11.bring 1 rfl
   have hS13 := hS12.bring 4 rfl
   have hS14 := hS13.bring 4 rfl
   have hS15 := hS14.bring 4 rfl
   exact go3_keep [(0, .bool false), (1, pP b4 0), (2, pP b5 0), (4, v3), (5, v4), (6, .slice (some ⟨b3, 0, none⟩) 4 4)] ea (hJ1_6 (v3, v4, b3, b4, b5) _ _ ⟨rfl, hS15⟩)
  exact go_nomore3
 refine go3_join works.t1_20 (fun (x : Value × Nat × Nat) e w => match x with | (v3, b3, b4) => e = [(0, .bool false), (1, pP b4 0), (4, v3), (6, .slice (some ⟨b3, 0, none⟩) 4 4)] ∧ St w0 w [Own.blk b4 (.cells #[.slice none 0 0, .slice none 0 0, vI 0] 36 (0, 0)), Own.blk b3 (.cells #[vI 5, vI 0, vI 0, vI 0] 3 (0, 0)), Own.of v3 41 image.f]) ?_ fun hJ1_12 => ?_
 ·rintro ⟨v3, b3, b4⟩ _ W2 ⟨rfl, hS7⟩
  replace hS7 : St w0 W2 [Own.blk b4 (.cells #[.slice none 0 0, .slice none 0 0, vI 0] 36 (0, 0)), Own.blk b3 (.cells #[vI 5, vI 0, vI 0, vI 0] 3 (0, 0)), Own.of v3 41 image.f] := hS7
  refine go_alt3 (fun KK hKK => ?_) ?_
  ·refine ge_one2 ?_
   refine ge_make (α := Int) (d := 5) (t := 23) (el := 3) (bytes := 8) (l := 8) (c := 8) (x := (.const (vI 8))) (y := (.const (vI 8))) (ty := 23) (k1 := .i64) (k2 := .i64) (li := 8) (ci := 8) (z := vI 0) (z' := (0 : Int)) (by kernel_rfl) (by kernel_rfl) (by kernel_rfl) rfl rfl (by kernel_rfl) (by kernel_rfl) rfl hS7 (Nat.le_refl _) rfl (by omega) fun v4 w4 _ hS8 => ?_
   refine ge_nil fun a hF => hKK _ _ (RS.of2 (l := []) (by kernel_rfl) trivial trivial) ?_ a hF
   have hS9 := hS8.bring 3 rfl
   have hS10 := hS9.bring 1 rfl
   have hS11 := hS10.bring 3 rfl
   have hS12 := hS11.bring 3 rfl
   exact go3_keep [(0, .bool false), (1, pP b4 0), (4, v3), (5, v4), (6, .slice (some ⟨b3, 0, none⟩) 4 4)] ea (hJ1_5 (v3, v4, b3, b4) _ _ ⟨rfl, hS12⟩)
  refine go_alt3 (fun KK hKK => ?_) ?_
  ·refine ge_one2 ?_
   refine gw (some 2) (.cells #[vI 0, vI 0] 29) (fun b => pP b 0) hS7 fun b5 w4 hx3 hS8 => ?_
   refine ge_nil fun a hF => hKK _ _ (RS.of2 (l := []) (by kernel_rfl) trivial trivial) ?_ a hF
   have hS16 := hS8.bring 3 rfl
   have hS17 := hS16.bring 3 rfl
   have hS18 := hS17.bring 3 rfl
   have hS19 := hS18.bring 3 rfl
   exact go3_keep [(0, .bool false), (1, pP b4 0), (2, pP b5 0), (4, v3), (6, .slice (some ⟨b3, 0, none⟩) 4 4)] ea (hJ1_13 (v3, b3, b4, b5) _ _ ⟨rfl, hS19⟩)
  exact go_nomore3
 refine go3_join works.t1_12 (fun (x : Value × Nat × Nat) e w => match x with | (v3, b3, b4) => e = [(0, .bool false), (2, pP b4 0), (4, v3), (6, .slice (some ⟨b3, 0, none⟩) 4 4)] ∧ St w0 w [Own.blk b4 (.cells #[vI 0, vI 0] 29 (0, 0)), Own.blk b3 (.cells #[vI 5, vI 0, vI 0, vI 0] 3 (0, 0)), Own.of v3 41 image.f]) ?_ fun hJ1_14 => ?_
 ·rintro ⟨v3, b3, b4⟩ _ W2 ⟨rfl, hS7⟩
  replace hS7 : St w0 W2 [Own.blk b4 (.cells #[vI 0, vI 0] 29 (0, 0)), Own.blk b3 (.cells #[vI 5, vI 0, vI 0, vI 0] 3 (0, 0)), Own.of v3 41 image.f] := hS7
  refine go_alt3 (fun KK hKK => ?_) ?_
  ·refine ge_one2 ?_
   refine ge_make (α := Int) (d := 5) (t := 23) (el := 3) (bytes := 8) (l := 8) (c := 8) (x := (.const (vI 8))) (y := (.const (vI 8))) (ty := 23) (k1 := .i64) (k2 := .i64) (li := 8) (ci := 8) (z := vI 0) (z' := (0 : Int)) (by kernel_rfl) (by kernel_rfl) (by kernel_rfl) rfl rfl (by kernel_rfl) (by kernel_rfl) rfl hS7 (Nat.le_refl _) rfl (by omega) fun v4 w4 _ hS8 => ?_
   refine ge_nil fun a hF => hKK _ _ (RS.of2 (l := []) (by kernel_rfl) trivial trivial) ?_ a hF
   have hS9 := hS8.bring 3 rfl
   have hS10 := hS9.bring 1 rfl
   have hS11 := hS10.bring 3 rfl
   have hS12 := hS11.bring 3 rfl
   exact go3_keep [(0, .bool false), (2, pP b4 0), (4, v3), (5, v4), (6, .slice (some ⟨b3, 0, none⟩) 4 4)] ea (hJ1_7 (v3, v4, b3, b4) _ _ ⟨rfl, hS12⟩)
  refine go_alt3 (fun KK hKK => ?_) ?_
  ·refine ge_one2 ?_
   refine gw (some 1) (.cells #[.slice none 0 0, .slice none 0 0, vI 0] 36) (fun b => pP b 0) hS7 fun b5 w4 hx3 hS8 => ?_
   refine ge_nil fun a hF => hKK _ _ (RS.of2 (l := []) (by kernel_rfl) trivial trivial) ?_ a hF
   have hS9 := hS8.bring 3 rfl
   have hS10 := hS9.bring 3 rfl
   have hS11 := hS10.bring 2 rfl
   have hS12 := hS11.bring 3 rfl
   exact go3_keep [(0, .bool false), (1, pP b5 0), (2, pP b4 0), (4, v3), (6, .slice (some ⟨b3, 0, none⟩) 4 4)] ea (hJ1_13 (v3, b3, b5, b4) _ _ ⟨rfl, hS12⟩)
  exact go_nomore3
 refine go3_join works.t1_27 (fun (x : Value × Nat) e w => match x with | (v3, b3) => e = [(0, .bool false), (4, v3), (6, .slice (some ⟨b3, 0, none⟩) 4 4)] ∧ St w0 w [Own.blk b3 (.cells #[vI 5, vI 0, vI 0, vI 0] 3 (0, 0)), Own.of v3 41 image.f]) ?_ fun hJ1_11 => ?_
 ·rintro ⟨v3, b3⟩ _ W1 ⟨rfl, hS5⟩
  replace hS5 : St w0 W1 [Own.blk b3 (.cells #[vI 5, vI 0, vI 0, vI 0] 3 (0, 0)), Own.of v3 41 image.f] := hS5
  refine go_alt3 (fun KK hKK => ?_) ?_
  ·refine ge_one2 ?_
   refine ge_make (α := Int) (d := 5) (t := 23) (el := 3) (bytes := 8) (l := 8) (c := 8) (x := (.const (vI 8))) (y := (.const (vI 8))) (ty := 23) (k1 := .i64) (k2 := .i64) (li := 8) (ci := 8) (z := vI 0) (z' := (0 : Int)) (by kernel_rfl) (by kernel_rfl) (by kernel_rfl) rfl rfl (by kernel_rfl) (by kernel_rfl) rfl hS5 (Nat.le_refl _) rfl (by omega) fun v4 w3 _ hS6 => ?_
   refine ge_nil fun a hF => hKK _ _ (RS.of2 (l := []) (by kernel_rfl) trivial trivial) ?_ a hF
   have hS7 := hS6.bring 2 rfl
   have hS8 := hS7.bring 1 rfl
   have hS9 := hS8.bring 2 rfl
   exact go3_keep [(0, .bool false), (4, v3), (5, v4), (6, .slice (some ⟨b3, 0, none⟩) 4 4)] ea (hJ1_1 (v3, v4, b3) _ _ ⟨rfl, hS9⟩)
  refine go_alt3 (fun KK hKK => ?_) ?_
  ·refine ge_one2 ?_
   refine gw (some 1) (.cells #[.slice none 0 0, .slice none 0 0, vI 0] 36) (fun b => pP b 0) hS5 fun b4 w3 hx2 hS6 => ?_
   refine ge_nil fun a hF => hKK _ _ (RS.of2 (l := []) (by kernel_rfl) trivial trivial) ?_ a hF
   have hS20 := hS6.bring 2 rfl
   have hS21 := hS20.bring 2 rfl
   have hS22 := hS21.bring 2 rfl
   exact go3_keep [(0, .bool false), (1, pP b4 0), (4, v3), (6, .slice (some ⟨b3, 0, none⟩) 4 4)] ea (hJ1_12 (v3, b3, b4) _ _ ⟨rfl, hS22⟩)
  refine go_alt3 (fun KK hKK => ?_) ?_
  ·refine ge_one2 ?_
   refine gw (some 2) (.cells #[vI 0, vI 0] 29) (fun b => pP b 0) hS5 fun b4 w3 hx2 hS6 => ?_
   refine ge_nil fun a hF => hKK _ _ (RS.of2 (l := []) (by kernel_rfl) trivial trivial) ?_ a hF
   have hS13 := hS6.bring 2 rfl
   have hS14 := hS13.bring 2 rfl
   have hS15 := hS14.bring 2 rfl
   exact go3_keep [(0, .bool false), (2, pP b4 0), (4, v3), (6, .slice (some ⟨b3, 0, none⟩) 4 4)] ea (hJ1_14 (v3, b3, b4) _ _ ⟨rfl, hS15⟩)
  exact go_nomore3
 refine go3_join works.t1_7 (fun (x : Value × Nat × Nat) e w => match x with | (v3, b3, b4) => e = [(0, .bool false), (1, pP b3 0), (2, pP b4 0), (4, v3)] ∧ St w0 w [Own.blk b4 (.cells #[vI 0, vI 0] 29 (0, 0)), Own.blk b3 (.cells #[.slice none 0 0, .slice none 0 0, vI 0] 36 (0, 0)), Own.of v3 41 image.f]) ?_ fun hJ1_16 => ?_
 ·rintro ⟨v3, b3, b4⟩ _ W2 ⟨rfl, hS7⟩
  replace hS7 : St w0 W2 [Own.blk b4 (.cells #[vI 0, vI 0] 29 (0, 0)), Own.blk b3 (.cells #[.slice none 0 0, .slice none 0 0, vI 0] 36 (0, 0)), Own.of v3 41 image.f] := hS7
  refine go_alt3 (fun KK hKK => ?_) ?_
  ·refine ge_one2 ?_
   refine ge_make (α := Int) (d := 5) (t := 23) (el := 3) (bytes := 8) (l := 8) (c := 8) (x := (.const (vI 8))) (y := (.const (vI 8))) (ty := 23) (k1 := .i64) (k2 := .i64) (li := 8) (ci := 8) (z := vI 0) (z' := (0 : Int)) (by kernel_rfl) (by kernel_rfl) (by kernel_rfl) rfl rfl (by kernel_rfl) (by kernel_rfl) rfl hS7 (Nat.le_refl _) rfl (by omega) fun v4 w4 _ hS8 => ?_
   refine ge_nil fun a hF => hKK _ _ (RS.of2 (l := []) (by kernel_rfl) trivial trivial) ?_ a hF
   have hS9 := hS8.bring 3 rfl
   have hS10 := hS9.bring 1 rfl
   have hS11 := hS10.bring 3 rfl
   have hS12 := hS11.bring 3 rfl
   exact go3_keep [(0, .bool false), (1, pP b3 0), (2, pP b4 0), (4, v3), (5, v4)] ea (hJ1_9 (v3, v4, b3, b4) _ _ ⟨rfl, hS12⟩)
  refine go_alt3 (fun KK hKK => ?_) ?_
  ·refine ge_one2 ?_
   refine gw (some 6) (.cells #[vI 5, vI 0, vI 0, vI 0] 3) (fun b => .slice (some ⟨b, 0, none⟩) 4 4) hS7 fun b5 w4 hx3 hS8 => ?_
   refine ge_nil fun a hF => hKK _ _ (RS.of2 (l := []) (by kernel_rfl) trivial trivial) ?_ a hF
   have hS9 := hS8.bring 3 rfl
   have hS10 := hS9.bring 1 rfl
   have hS11 := hS10.bring 3 rfl
   have hS12 := hS11.bring 3 rfl
   exact go3_keep [(0, .bool false), (1, pP b3 0), (2, pP b4 0), (4, v3), (6, .slice (some ⟨b5, 0, none⟩) 4 4)] ea (hJ1_13 (v3, b5, b3, b4) _ _ ⟨rfl, hS12⟩)
  exact go_nomore3
 refine go3_join works.t1_24 (fun (x : Value × Nat) e w => match x with | (v3, b3) => e = [(0, .bool false), (1, pP b3 0), (4, v3)] ∧ St w0 w [Own.blk b3 (.cells #[.slice none 0 0, .slice none 0 0, vI 0] 36 (0, 0)), Own.of v3 41 image.f]) ?_ fun hJ1_15 => ?_
 ·rintro ⟨v3, b3⟩ _ W1 ⟨rfl, hS5⟩
  replace hS5 : St w0 W1 [Own.blk b3 (.cells #[.slice none 0 0, .slice none 0 0, vI 0] 36 (0, 0)), Own.of v3 41 image.f] := hS5
  refine go_alt3 (fun KK hKK => ?_) ?_
  ·refine ge_one2 ?_
   refine ge_make (α := Int) (d := 5) (t := 23) (el := 3) (bytes := 8) (l := 8) (c := 8) (x := (.const (vI 8))) (y := (.const (vI 8))) (ty := 23) (k1 := .i64) (k2 := .i64) (li := 8) (ci := 8) (z := vI 0) (z' := (0 : Int)) (by kernel_rfl) (by kernel_rfl) (by kernel_rfl) rfl rfl (by kernel_rfl) (by kernel_rfl) rfl hS5 (Nat.le_refl _) rfl (by omega) fun v4 w3 _ hS6 => ?_
   refine ge_nil fun a hF => hKK _ _ (RS.of2 (l := []) (by kernel_rfl) trivial trivial) ?_ a hF
   have hS7 := hS6.bring 2 rfl
   have hS8 := hS7.bring 1 rfl
   have hS9 := hS8.bring 2 rfl
   exact go3_keep [(0, .bool false), (1, pP b3 0), (4, v3), (5, v4)] ea (hJ1_8 (v3, v4, b3) _ _ ⟨rfl, hS9⟩)
  refine go_alt3 (fun KK hKK => ?_) ?_
  ·refine ge_one2 ?_
   refine gw (some 6) (.cells #[vI 5, vI 0, vI 0, vI 0] 3) (fun b => .slice (some ⟨b, 0, none⟩) 4 4) hS5 fun b4 w3 hx2 hS6 => ?_
   refine ge_nil fun a hF => hKK _ _ (RS.of2 (l := []) (by kernel_rfl) trivial trivial) ?_ a hF
   have hS7 := hS6.bring 2 rfl
   have hS8 := hS7.bring 1 rfl
   have hS9 := hS8.bring 2 rfl
   exact go3_keep [(0, .bool false), (1, pP b3 0), (4, v3), (6, .slice (some ⟨b4, 0, none⟩) 4 4)] ea (hJ1_12 (v3, b4, b3) _ _ ⟨rfl, hS9⟩)
  refine go_alt3 (fun KK hKK => ?_) ?_
  ·refine ge_one2 ?_
   refine gw (some 2) (.cells #[vI 0, vI 0] 29) (fun b => pP b 0) hS5 fun b4 w3 hx2 hS6 => ?_
   refine ge_nil fun a hF => hKK _ _ (RS.of2 (l := []) (by kernel_rfl) trivial trivial) ?_ a hF
   have hS13 := hS6.bring 2 rfl
   have hS14 := hS13.bring 2 rfl
   have hS15 := hS14.bring 2 rfl
   exact go3_keep [(0, .bool false), (1, pP b3 0), (2, pP b4 0), (4, v3)] ea (hJ1_16 (v3, b3, b4) _ _ ⟨rfl, hS15⟩)
  exact go_nomore3
 refine go3_join works.t1_16 (fun (x : Value × Nat) e w => match x with | (v3, b3) => e = [(0, .bool false), (2, pP b3 0), (4, v3)] ∧ St w0 w [Own.blk b3 (.cells #[vI 0, vI 0] 29 (0, 0)), Own.of v3 41 image.f]) ?_ fun hJ1_17 => ?_
 ·rintro ⟨v3, b3⟩ _ W1 ⟨rfl, hS5⟩
  replace hS5 : St w0 W1 [Own.blk b3 (.cells #[vI 0, vI 0] 29 (0, 0)), Own.of v3 41 image.f] := hS5
  refine go_alt3 (fun KK hKK => ?_) ?_
  ·refine ge_one2 ?_
   refine ge_make (α := Int) (d := 5) (t := 23) (el := 3) (bytes := 8) (l := 8) (c := 8) (x := (.const (vI 8))) (y := (.const (vI 8))) (ty := 23) (k1 := .i64) (k2 := .i64) (li := 8) (ci := 8) (z := vI 0) (z' := (0 : Int)) (by kernel_rfl) (by kernel_rfl) (by kernel_rfl) rfl rfl (by kernel_rfl) (by kernel_rfl) rfl hS5 (Nat.le_refl _) rfl (by omega) fun v4 w3 _ hS6 => ?_
   refine ge_nil fun a hF => hKK _ _ (RS.of2 (l := []) (by kernel_rfl) trivial trivial) ?_ a hF
   have hS7 := hS6.bring 2 rfl
   have hS8 := hS7.bring 1 rfl
   have hS9 := hS8.bring 2 rfl
   exact go3_keep [(0, .bool false), (2, pP b3 0), (4, v3), (5, v4)] ea (hJ1_10 (v3, v4, b3) _ _ ⟨rfl, hS9⟩)
  refine go_alt3 (fun KK hKK => ?_) ?_
  ·refine ge_one2 ?_
   refine gw (some 6) (.cells #[vI 5, vI 0, vI 0, vI 0] 3) (fun b => .slice (some ⟨b, 0, none⟩) 4 4) hS5 fun b4 w3 hx2 hS6 => ?_
   refine ge_nil fun a hF => hKK _ _ (RS.of2 (l := []) (by kernel_rfl) trivial trivial) ?_ a hF
   have hS7 := hS6.bring 2 rfl
   have hS8 := hS7.bring 1 rfl
   have hS9 := hS8.bring 2 rfl
   exact go3_keep [(0, .bool false), (2, pP b3 0), (4, v3), (6, .slice (some ⟨b4, 0, none⟩) 4 4)] ea (hJ1_14 (v3, b4, b3) _ _ ⟨rfl, hS9⟩)
  refine go_alt3 (fun KK hKK => ?_) ?_
  ·refine ge_one2 ?_
   refine gw (some 1) (.cells #[.slice none 0 0, .slice none 0 0, vI 0] 36) (fun b => pP b 0) hS5 fun b4 w3 hx2 hS6 => ?_
   refine ge_nil fun a hF => hKK _ _ (RS.of2 (l := []) (by kernel_rfl) trivial trivial) ?_ a hF
   have hS7 := hS6.bring 2 rfl
   have hS8 := hS7.bring 1 rfl
   have hS9 := hS8.bring 2 rfl
   exact go3_keep [(0, .bool false), (1, pP b4 0), (2, pP b3 0), (4, v3)] ea (hJ1_16 (v3, b4, b3) _ _ ⟨rfl, hS9⟩)
  exact go_nomore3
 refine go3_join works.t1_2 (fun (x : Value × Nat × Nat × Nat) e w => match x with | (v3, b3, b4, b5) => e = [(0, .bool false), (1, pP b4 0), (2, pP b5 0), (5, v3), (6, .slice (some ⟨b3, 0, none⟩) 4 4)] ∧ St w0 w [Own.blk b5 (.cells #[vI 0, vI 0] 29 (0, 0)), Own.blk b4 (.cells #[.slice none 0 0, .slice none 0 0, vI 0] 36 (0, 0)), Own.blk b3 (.cells #[vI 5, vI 0, vI 0, vI 0] 3 (0, 0)), Own.of v3 3 (List.replicate 8 (0 : Int))]) ?_ fun hJ1_20 => ?_
 ·rintro ⟨v3, b3, b4, b5⟩ _ W3 ⟨rfl, hS8⟩
  replace hS8 : St w0 W3 [Own.blk b5 (.cells #[vI 0, vI 0] 29 (0, 0)), Own.blk b4 (.cells #[.slice none 0 0, .slice none 0 0, vI 0] 36 (0, 0)), Own.blk b3 (.cells #[vI 5, vI 0, vI 0, vI 0] 3 (0, 0)), Own.of v3 3 (List.replicate 8 (0 : Int))] := hS8
  refine go_alt3 (fun KK hKK => ?_) ?_
  ·refine ge_one2 ?_
   refine ge_call (d := some 4) (f := 14) (args := #[]) (by kernel_rfl) (image_ok _ _ rfl) ?_
   rintro _ w5 ⟨v4, rfl, hS9⟩
   refine ⟨_, rfl, hS9.below, ?_⟩
   have hS10 := hS8.call hS9
   refine ge_nil fun a hF => hKK _ _ (RS.of2 (l := []) (by kernel_rfl) trivial trivial) ?_ a hF
   have hS11 := hS10.bring 4 rfl
   have hS12 := hS11.bring 4 rfl
   have hS13 := hS12.bring 4 rfl
   have hS14 := hS13.bring 4 rfl
   exact go3_keep [(0, .bool false), (1, pP b4 0), (2, pP b5 0), (4, v4), (5, v3), (6, .slice (some ⟨b3, 0, none⟩) 4 4)] ea (hJ1_6 (v4, v3, b3, b4, b5) _ _ ⟨rfl, hS14⟩)
  exact go_nomore3
 refine go3_join works.t1_19 (fun (x : Value × Nat × Nat) e w => match x with | (v3, b3, b4) => e = [(0, .bool false), (1, pP b4 0), (5, v3), (6, .slice (some ⟨b3, 0, none⟩) 4 4)] ∧ St w0 w [Own.blk b4 (.cells #[.slice none 0 0, .slice none 0 0, vI 0] 36 (0, 0)), Own.blk b3 (.cells #[vI 5, vI 0, vI 0, vI 0] 3 (0, 0)), Own.of v3 3 (List.replicate 8 (0 : Int))]) ?_ fun hJ1_19 => ?_
 ·rintro ⟨v3, b3, b4⟩ _ W2 ⟨rfl, hS6⟩
  replace hS6 : St w0 W2 [Own.blk b4 (.cells #[.slice none 0 0, .slice none 0 0, vI 0] 36 (0, 0)), Own.blk b3 (.cells #[vI 5, vI 0, vI 0, vI 0] 3 (0, 0)), Own.of v3 3 (List.replicate 8 (0 : Int))] := hS6
  refine go_alt3 (fun KK hKK => ?_) ?_
  ·refine ge_one2 ?_
   refine ge_call (d := some 4) (f := 14) (args := #[]) (by kernel_rfl) (image_ok _ _ rfl) ?_
   rintro _ w4 ⟨v4, rfl, hS7⟩
   refine ⟨_, rfl, hS7.below, ?_⟩
   have hS8 := hS6.call hS7
   refine ge_nil fun a hF => hKK _ _ (RS.of2 (l := []) (by kernel_rfl) trivial trivial) ?_ a hF
   have hS9 := hS8.bring 3 rfl
   have hS10 := hS9.bring 3 rfl
   have hS11 := hS10.bring 3 rfl
   exact go3_keep [(0, .bool false), (1, pP b4 0), (4, v4), (5, v3), (6, .slice (some ⟨b3, 0, none⟩) 4 4)] ea (hJ1_5 (v4, v3, b3, b4) _ _ ⟨rfl, hS11⟩)
  refine go_alt3 (fun KK hKK => ?_) ?_
  ·refine ge_one2 ?_
   refine gw (some 2) (.cells #[vI 0, vI 0] 29) (fun b => pP b 0) hS6 fun b5 w4 hx3 hS7 => ?_
   refine ge_nil fun a hF => hKK _ _ (RS.of2 (l := []) (by kernel_rfl) trivial trivial) ?_ a hF
   have hS15 := hS7.bring 3 rfl
   have hS16 := hS15.bring 3 rfl
   have hS17 := hS16.bring 3 rfl
   have hS18 := hS17.bring 3 rfl
   exact go3_keep [(0, .bool false), (1, pP b4 0), (2, pP b5 0), (5, v3), (6, .slice (some ⟨b3, 0, none⟩) 4 4)] ea (hJ1_20 (v3, b3, b4, b5) _ _ ⟨rfl, hS18⟩)
  exact go_nomore3
 refine go3_join works.t1_11 (fun (x : Value × Nat × Nat) e w => match x with | (v3, b3, b4) => e = [(0, .bool false), (2, pP b4 0), (5, v3), (6, .slice (some ⟨b3, 0, none⟩) 4 4)] ∧ St w0 w [Own.blk b4 (.cells #[vI 0, vI 0] 29 (0, 0)), Own.blk b3 (.cells #[vI 5, vI 0, vI 0, vI 0] 3 (0, 0)), Own.of v3 3 (List.replicate 8 (0 : Int))]) ?_ fun hJ1_21 => ?_
 ·rintro ⟨v3, b3, b4⟩ _ W2 ⟨rfl, hS6⟩
  replace hS6 : St w0 W2 [Own.blk b4 (.cells #[vI 0, vI 0] 29 (0, 0)), Own.blk b3 (.cells #[vI 5, vI 0, vI 0, vI 0] 3 (0, 0)), Own.of v3 3 (List.replicate 8 (0 : Int))] := hS6
  refine go_alt3 (fun KK hKK => ?_) ?_
  ·refine ge_one2 ?_
   refine ge_call (d := some 4) (f := 14) (args := #[]) (by kernel_rfl) (image_ok _ _ rfl) ?_
   rintro _ w4 ⟨v4, rfl, hS7⟩
   refine ⟨_, rfl, hS7.below, ?_⟩
   have hS8 := hS6.call hS7
   refine ge_nil fun a hF => hKK _ _ (RS.of2 (l := []) (by kernel_rfl) trivial trivial) ?_ a hF
   have hS9 := hS8.bring 3 rfl
   have hS10 := hS9.bring 3 rfl
   have hS11 := hS10.bring 3 rfl
   exact go3_keep [(0, .bool false), (2, pP b4 0), (4, v4), (5, v3), (6, .slice (some ⟨b3, 0, none⟩) 4 4)] ea (hJ1_7 (v4, v3, b3, b4) _ _ ⟨rfl, hS11⟩)
  refine go_alt3 (fun KK hKK => ?_) ?_
  ·refine ge_one2 ?_
   refine gw (some 1) (.cells #[.slice none 0 0, .slice none 0 0, vI 0] 36) (fun b => pP b 0) hS6 fun b5 w4 hx3 hS7 => ?_
   refine ge_nil fun a hF => hKK _ _ (RS.of2 (l := []) (by kernel_rfl) trivial trivial) ?_ a hF
   have hS8 := hS7.bring 3 rfl
   have hS9 := hS8.bring 3 rfl
   have hS10 := hS9.bring 2 rfl
   have hS11 := hS10.bring 3 rfl
   exact go3_keep [(0, .bool false), (1, pP b5 0), (2, pP b4 0), (5, v3), (6, .slice (some ⟨b3, 0, none⟩) 4 4)] ea (hJ1_20 (v3, b3, b5, b4) _ _ ⟨rfl, hS11⟩)
  exact go_nomore3
 refine go3_join works.t1_26 (fun (x : Value × Nat) e w => match x with | (v3, b3) => e = [(0, .bool false), (5, v3), (6, .slice (some ⟨b3, 0, none⟩) 4 4)] ∧ St w0 w [Own.blk b3 (.cells #[vI 5, vI 0, vI 0, vI 0] 3 (0, 0)), Own.of v3 3 (List.replicate 8 (0 : Int))]) ?_ fun hJ1_18 => ?_
 ·rintro ⟨v3, b3⟩ _ W1 ⟨rfl, hS4⟩
  replace hS4 : St w0 W1 [Own.blk b3 (.cells #[vI 5, vI 0, vI 0, vI 0] 3 (0, 0)), Own.of v3 3 (List.replicate 8 (0 : Int))] := hS4
  refine go_alt3 (fun KK hKK => ?_) ?_
  ·refine ge_one2 ?_
   refine ge_call (d := some 4) (f := 14) (args := #[]) (by kernel_rfl) (image_ok _ _ rfl) ?_
   rintro _ w3 ⟨v4, rfl, hS5⟩
   refine ⟨_, rfl, hS5.below, ?_⟩
   have hS6 := hS4.call hS5
   refine ge_nil fun a hF => hKK _ _ (RS.of2 (l := []) (by kernel_rfl) trivial trivial) ?_ a hF
   have hS7 := hS6.bring 2 rfl
   have hS8 := hS7.bring 2 rfl
   exact go3_keep [(0, .bool false), (4, v4), (5, v3), (6, .slice (some ⟨b3, 0, none⟩) 4 4)] ea (hJ1_1 (v4, v3, b3) _ _ ⟨rfl, hS8⟩)
  refine go_alt3 (fun KK hKK => ?_) ?_
  ·refine ge_one2 ?_
   refine gw (some 1) (.cells #[.slice none 0 0, .slice none 0 0, vI 0] 36) (fun b => pP b 0) hS4 fun b4 w3 hx2 hS5 => ?_
   refine ge_nil fun a hF => hKK _ _ (RS.of2 (l := []) (by kernel_rfl) trivial trivial) ?_ a hF
   have hS19 := hS5.bring 2 rfl
   have hS20 := hS19.bring 2 rfl
   have hS21 := hS20.bring 2 rfl
   exact go3_keep [(0, .bool false), (1, pP b4 0), (5, v3), (6, .slice (some ⟨b3, 0, none⟩) 4 4)] ea (hJ1_19 (v3, b3, b4) _ _ ⟨rfl, hS21⟩)
  refine go_alt3 (fun KK hKK => ?_) ?_
  ·refine ge_one2 ?_
   refine gw (some 2) (.cells #[vI 0, vI 0] 29) (fun b => pP b 0) hS4 fun b4 w3 hx2 hS5 => ?_
   refine ge_nil fun a hF => hKK _ _ (RS.of2 (l := []) (by kernel_rfl) trivial trivial) ?_ a hF
   have hS12 := hS5.bring 2 rfl
   have hS13 := hS12.bring 2 rfl
   have hS14 := hS13.bring 2 rfl
   exact go3_keep [(0, .bool false), (2, pP b4 0), (5, v3), (6, .slice (some ⟨b3, 0, none⟩) 4 4)] ea (hJ1_21 (v3, b3, b4) _ _ ⟨rfl, hS14⟩)
  exact go_nomore3
 refine go3_join works.t1_6 (fun (x : Value × Nat × Nat) e w => match x with | (v3, b3, b4) => e = [(0, .bool false), (1, pP b3 0), (2, pP b4 0), (5, v3)] ∧ St w0 w [Own.blk b4 (.cells #[vI 0, vI 0] 29 (0, 0)), Own.blk b3 (.cells #[.slice none 0 0, .slice none 0 0, vI 0] 36 (0, 0)), Own.of v3 3 (List.replicate 8 (0 : Int))]) ?_ fun hJ1_23 => ?_
 ·rintro ⟨v3, b3, b4⟩ _ W2 ⟨rfl, hS6⟩
  replace hS6 : St w0 W2 [Own.blk b4 (.cells #[vI 0, vI 0] 29 (0, 0)), Own.blk b3 (.cells #[.slice none 0 0, .slice none 0 0, vI 0] 36 (0, 0)), Own.of v3 3 (List.replicate 8 (0 : Int))] := hS6
  refine go_alt3 (fun KK hKK => ?_) ?_
  ·refine ge_one2 ?_
   refine ge_call (d := some 4) (f := 14) (args := #[]) (by kernel_rfl) (image_ok _ _ rfl) ?_
   rintro _ w4 ⟨v4, rfl, hS7⟩
   refine ⟨_, rfl, hS7.below, ?_⟩
   have hS8 := hS6.call hS7
   refine ge_nil fun a hF => hKK _ _ (RS.of2 (l := []) (by kernel_rfl) trivial trivial) ?_ a hF
   have hS9 := hS8.bring 3 rfl
   have hS10 := hS9.bring 3 rfl
   have hS11 := hS10.bring 3 rfl
   exact go3_keep [(0, .bool false), (1, pP b3 0), (2, pP b4 0), (4, v4), (5, v3)] ea (hJ1_9 (v4, v3, b3, b4) _ _ ⟨rfl, hS11⟩)
  refine go_alt3 (fun KK hKK => ?_) ?_
  ·refine ge_one2 ?_
   refine gw (some 6) (.cells #[vI 5, vI 0, vI 0, vI 0] 3) (fun b => .slice (some ⟨b, 0, none⟩) 4 4) hS6 fun b5 w4 hx3 hS7 => ?_
   refine ge_nil fun a hF => hKK _ _ (RS.of2 (l := []) (by kernel_rfl) trivial trivial) ?_ a hF
   have hS8 := hS7.bring 3 rfl
   have hS9 := hS8.bring 1 rfl
   have hS10 := hS9.bring 3 rfl
   have hS11 := hS10.bring 3 rfl
   exact go3_keep [(0, .bool false), (1, pP b3 0), (2, pP b4 0), (5, v3), (6, .slice (some ⟨b5, 0, none⟩) 4 4)] ea (hJ1_20 (v3, b5, b3, b4) _ _ ⟨rfl, hS11⟩)
  exact go_nomore3
 refine go3_join works.t1_23 (fun (x : Value × Nat) e w => match x with | (v3, b3) => e = [(0, .bool false), (1, pP b3 0), (5, v3)] ∧ St w0 w [Own.blk b3 (.cells #[.slice none 0 0, .slice none 0 0, vI 0] 36 (0, 0)), Own.of v3 3 (List.replicate 8 (0 : Int))]) ?_ fun hJ1_22 => ?_
 ·rintro ⟨v3, b3⟩ _ W1 ⟨rfl, hS4⟩
  replace hS4 : St w0 W1 [Own.blk b3 (.cells #[.slice none 0 0, .slice none 0 0, vI 0] 36 (0, 0)), Own.of v3 3 (List.replicate 8 (0 : Int))] := hS4
  refine go_alt3 (fun KK hKK => ?_) ?_
  ·refine ge_one2 ?_
   refine ge_call (d := some 4) (f := 14) (args := #[]) (by kernel_rfl) (image_ok _ _ rfl) ?_
   rintro _ w3 ⟨v4, rfl, hS5⟩
   refine ⟨_, rfl, hS5.below, ?_⟩
   have hS6 := hS4.call hS5
   refine ge_nil fun a hF => hKK _ _ (RS.of2 (l := []) (by kernel_rfl) trivial trivial) ?_ a hF
   have hS7 := hS6.bring 2 rfl
   have hS8 := hS7.bring 2 rfl
   exact go3_keep [(0, .bool false), (1, pP b3 0), (4, v4), (5, v3)] ea (hJ1_8 (v4, v3, b3) _ _ ⟨rfl, hS8⟩)
  refine go_alt3 (fun KK hKK => ?_) ?_
  ·refine ge_one2 ?_
   refine gw (some 6) (.cells #[vI 5, vI 0, vI 0, vI 0] 3) (fun b => .slice (some ⟨b, 0, none⟩) 4 4) hS4 fun b4 w3 hx2 hS5 => ?_
   refine ge_nil fun a hF => hKK _ _ (RS.of2 (l := []) (by kernel_rfl) trivial trivial) ?_ a hF
   have hS6 := hS5.bring 2 rfl
   have hS7 := hS6.bring 1 rfl
   have hS8 := hS7.bring 2 rfl
   exact go3_keep [(0, .bool false), (1, pP b3 0), (5, v3), (6, .slice (some ⟨b4, 0, none⟩) 4 4)] ea (hJ1_19 (v3, b4, b3) _ _ ⟨rfl, hS8⟩)
  refine go_alt3 (fun KK hKK => ?_) ?_
  ·refine ge_one2 ?_
   refine gw (some 2) (.cells #[vI 0, vI 0] 29) (fun b => pP b 0) hS4 fun b4 w3 hx2 hS5 => ?_
   refine ge_nil fun a hF => hKK _ _ (RS.of2 (l := []) (by kernel_rfl) trivial trivial) ?_ a hF
   have hS12 := hS5.bring 2 rfl
   have hS13 := hS12.bring 2 rfl
   have hS14 := hS13.bring 2 rfl
   exact go3_keep [(0, .bool false), (1, pP b3 0), (2, pP b4 0), (5, v3)] ea (hJ1_23 (v3, b3, b4) _ _ ⟨rfl, hS14⟩)
  exact go_nomore3
 refine go3_join works.t1_15 (fun (x : Value × Nat) e w => match x with | (v3, b3) => e = [(0, .bool false), (2, pP b3 0), (5, v3)] ∧ St w0 w [Own.blk b3 (.cells #[vI 0, vI 0] 29 (0, 0)), Own.of v3 3 (List.replicate 8 (0 : Int))]) ?_ fun hJ1_24 => ?_
 ·rintro ⟨v3, b3⟩ _ W1 ⟨rfl, hS4⟩
  replace hS4 : St w0 W1 [Own.blk b3 (.cells #[vI 0, vI 0] 29 (0, 0)), Own.of v3 3 (List.replicate 8 (0 : Int))] := hS4
  refine go_alt3 (fun KK hKK => ?_) ?_
  ·refine ge_one2 ?_
   refine ge_call (d := some 4) (f := 14) (args := #[]) (by kernel_rfl) (image_ok _ _ rfl) ?_
   rintro _ w3 ⟨v4, rfl, hS5⟩
   refine ⟨_, rfl, hS5.below, ?_⟩
   have hS6 := hS4.call hS5
   refine ge_nil fun a hF => hKK _ _ (RS.of2 (l := []) (by kernel_rfl) trivial trivial) ?_ a hF
   have hS7 := hS6.bring 2 rfl
   have hS8 := hS7.bring 2 rfl
   exact go3_keep [(0, .bool false), (2, pP b3 0), (4, v4), (5, v3)] ea (hJ1_10 (v4, v3, b3) _ _ ⟨rfl, hS8⟩)
  refine go_alt3 (fun KK hKK => ?_) ?_
  ·refine ge_one2 ?_
   refine gw (some 6) (.cells #[vI 5, vI 0, vI 0, vI 0] 3) (fun b => .slice (some ⟨b, 0, none⟩) 4 4) hS4 fun b4 w3 hx2 hS5 => ?_
   refine ge_nil fun a hF => hKK _ _ (RS.of2 (l := []) (by kernel_rfl) trivial trivial) ?_ a hF
   have hS6 := hS5.bring 2 rfl
   have hS7 := hS6.bring 1 rfl
   have hS8 := hS7.bring 2 rfl
   exact go3_keep [(0, .bool false), (2, pP b3 0), (5, v3), (6, .slice (some ⟨b4, 0, none⟩) 4 4)] ea (hJ1_21 (v3, b4, b3) _ _ ⟨rfl, hS8⟩)
  refine go_alt3 (fun KK hKK => ?_) ?_
  ·refine ge_one2 ?_
   refine gw (some 1) (.cells #[.slice none 0 0, .slice none 0 0, vI 0] 36) (fun b => pP b 0) hS4 fun b4 w3 hx2 hS5 => ?_
   refine ge_nil fun a hF => hKK _ _ (RS.of2 (l := []) (by kernel_rfl) trivial trivial) ?_ a hF
   have hS6 := hS5.bring 2 rfl
   have hS7 := hS6.bring 1 rfl
   have hS8 := hS7.bring 2 rfl
   exact go3_keep [(0, .bool false), (1, pP b4 0), (2, pP b3 0), (5, v3)] ea (hJ1_23 (v3, b4, b3) _ _ ⟨rfl, hS8⟩)
  exact go_nomore3
 refine go3_join works.t1_4 (fun (x : Nat × Nat × Nat) e w => match x with | (b3, b4, b5) => e = [(0, .bool false), (1, pP b4 0), (2, pP b5 0), (6, .slice (some ⟨b3, 0, none⟩) 4 4)] ∧ St w0 w [Own.blk b5 (.cells #[vI 0, vI 0] 29 (0, 0)), Own.blk b4 (.cells #[.slice none 0 0, .slice none 0 0, vI 0] 36 (0, 0)), Own.blk b3 (.cells #[vI 5, vI 0, vI 0, vI 0] 3 (0, 0))]) ?_ fun hJ1_26 => ?_
 ·rintro ⟨b3, b4, b5⟩ _ W2 ⟨rfl, hS6⟩
  replace hS6 : St w0 W2 [Own.blk b5 (.cells #[vI 0, vI 0] 29 (0, 0)), Own.blk b4 (.cells #[.slice none 0 0, .slice none 0 0, vI 0] 36 (0, 0)), Own.blk b3 (.cells #[vI 5, vI 0, vI 0, vI 0] 3 (0, 0))] := hS6
  refine go_alt3 (fun KK hKK => ?_) ?_
  ·refine ge_one2 ?_
   refine ge_call (d := some 4) (f := 14) (args := #[]) (by kernel_rfl) (image_ok _ _ rfl) ?_
   rintro _ w4 ⟨v3, rfl, hS7⟩
   refine ⟨_, rfl, hS7.below, ?_⟩
   have hS8 := hS6.call hS7
   refine ge_nil fun a hF => hKK _ _ (RS.of2 (l := []) (by kernel_rfl) trivial trivial) ?_ a hF
   have hS9 := hS8.bring 3 rfl
   have hS10 := hS9.bring 3 rfl
   have hS11 := hS10.bring 3 rfl
   exact go3_keep [(0, .bool false), (1, pP b4 0), (2, pP b5 0), (4, v3), (6, .slice (some ⟨b3, 0, none⟩) 4 4)] ea (hJ1_13 (v3, b3, b4, b5) _ _ ⟨rfl, hS11⟩)
  refine go_alt3 (fun KK hKK => ?_) ?_
  ·refine ge_one2 ?_
   refine ge_make (α := Int) (d := 5) (t := 23) (el := 3) (bytes := 8) (l := 8) (c := 8) (x := (.const (vI 8))) (y := (.const (vI 8))) (ty := 23) (k1 := .i64) (k2 := .i64) (li := 8) (ci := 8) (z := vI 0) (z' := (0 : Int)) (by kernel_rfl) (by kernel_rfl) (by kernel_rfl) rfl rfl (by kernel_rfl) (by kernel_rfl) rfl hS6 (Nat.le_refl _) rfl (by omega) fun v3 w4 _ hS7 => ?_
   refine ge_nil fun a hF => hKK _ _ (RS.of2 (l := []) (by kernel_rfl) trivial trivial) ?_ a hF
   have hS8 := hS7.bring 3 rfl
   have hS9 := hS8.bring 3 rfl
   have hS10 := hS9.bring 3 rfl
   exact go3_keep [(0, .bool false), (1, pP b4 0), (2, pP b5 0), (5, v3), (6, .slice (some ⟨b3, 0, none⟩) 4 4)] ea (hJ1_20 (v3, b3, b4, b5) _ _ ⟨rfl, hS10⟩)
  exact go_nomore3
 refine go3_join works.t1_21 (fun (x : Nat × Nat) e w => match x with | (b3, b4) => e = [(0, .bool false), (1, pP b4 0), (6, .slice (some ⟨b3, 0, none⟩) 4 4)] ∧ St w0 w [Own.blk b4 (.cells #[.slice none 0 0, .slice none 0 0, vI 0] 36 (0, 0)), Own.blk b3 (.cells #[vI 5, vI 0, vI 0, vI 0] 3 (0, 0))]) ?_ fun hJ1_25 => ?_
 ·rintro ⟨b3, b4⟩ _ W1 ⟨rfl, hS4⟩
  replace hS4 : St w0 W1 [Own.blk b4 (.cells #[.slice none 0 0, .slice none 0 0, vI 0] 36 (0, 0)), Own.blk b3 (.cells #[vI 5, vI 0, vI 0, vI 0] 3 (0, 0))] := hS4
  refine go_alt3 (fun KK hKK => ?_) ?_
  ·refine ge_one2 ?_
   refine ge_call (d := some 4) (f := 14) (args := #[]) (by kernel_rfl) (image_ok _ _ rfl) ?_
   rintro _ w3 ⟨v3, rfl, hS5⟩
   refine ⟨_, rfl, hS5.below, ?_⟩
   have hS6 := hS4.call hS5
   refine ge_nil fun a hF => hKK _ _ (RS.of2 (l := []) (by kernel_rfl) trivial trivial) ?_ a hF
   have hS7 := hS6.bring 2 rfl
   have hS8 := hS7.bring 2 rfl
   exact go3_keep [(0, .bool false), (1, pP b4 0), (4, v3), (6, .slice (some ⟨b3, 0, none⟩) 4 4)] ea (hJ1_12 (v3, b3, b4) _ _ ⟨rfl, hS8⟩)
  refine go_alt3 (fun KK hKK => ?_) ?_
  ·refine ge_one2 ?_
   refine ge_make (α := Int) (d := 5) (t := 23) (el := 3) (bytes := 8) (l := 8) (c := 8) (x := (.const (vI 8))) (y := (.const (vI 8))) (ty := 23) (k1 := .i64) (k2 := .i64) (li := 8) (ci := 8) (z := vI 0) (z' := (0 : Int)) (by kernel_rfl) (by kernel_rfl) (by kernel_rfl) rfl rfl (by kernel_rfl) (by kernel_rfl) rfl hS4 (Nat.le_refl _) rfl (by omega) fun v3 w3 _ hS5 => ?_
   refine ge_nil fun a hF => hKK _ _ (RS.of2 (l := []) (by kernel_rfl) trivial trivial) ?_ a hF
   have hS6 := hS5.bring 2 rfl
   have hS7 := hS6.bring 2 rfl
   exact go3_keep [(0, .bool false), (1, pP b4 0), (5, v3), (6, .slice (some ⟨b3, 0, none⟩) 4 4)] ea (hJ1_19 (v3, b3, b4) _ _ ⟨rfl, hS7⟩)
  refine go_alt3 (fun KK hKK => ?_) ?_
  ·refine ge_one2 ?_
   refine gw (some 2) (.cells #[vI 0, vI 0] 29) (fun b => pP b 0) hS4 fun b5 w3 hx3 hS5 => ?_
   refine ge_nil fun a hF => hKK _ _ (RS.of2 (l := []) (by kernel_rfl) trivial trivial) ?_ a hF
   have hS11 := hS5.bring 2 rfl
   have hS12 := hS11.bring 2 rfl
   have hS13 := hS12.bring 2 rfl
   exact go3_keep [(0, .bool false), (1, pP b4 0), (2, pP b5 0), (6, .slice (some ⟨b3, 0, none⟩) 4 4)] ea (hJ1_26 (b3, b4, b5) _ _ ⟨rfl, hS13⟩)
  exact go_nomore3
 refine go3_join works.t1_13 (fun (x : Nat × Nat) e w => match x with | (b3, b4) => e = [(0, .bool false), (2, pP b4 0), (6, .slice (some ⟨b3, 0, none⟩) 4 4)] ∧ St w0 w [Own.blk b4 (.cells #[vI 0, vI 0] 29 (0, 0)), Own.blk b3 (.cells #[vI 5, vI 0, vI 0, vI 0] 3 (0, 0))]) ?_ fun hJ1_27 => ?_
 ·rintro ⟨b3, b4⟩ _ W1 ⟨rfl, hS4⟩
  replace hS4 : St w0 W1 [Own.blk b4 (.cells #[vI 0, vI 0] 29 (0, 0)), Own.blk b3 (.cells #[vI 5, vI 0, vI 0, vI 0] 3 (0, 0))] := hS4
  refine go_alt3 (fun KK hKK => ?_) ?_
  ·refine ge_one2 ?_
   refine ge_call (d := some 4) (f := 14) (args := #[]) (by kernel_rfl) (image_ok _ _ rfl) ?_
   rintro _ w3 ⟨v3, rfl, hS5⟩
   refine ⟨_, rfl, hS5.below, ?_⟩
   have hS6 := hS4.call hS5
   refine ge_nil fun a hF => hKK _ _ (RS.of2 (l := []) (by kernel_rfl) trivial trivial) ?_ a hF
   have hS7 := hS6.bring 2 rfl
   have hS8 := hS7.bring 2 rfl
   exact go3_keep [(0, .bool false), (2, pP b4 0), (4, v3), (6, .slice (some ⟨b3, 0, none⟩) 4 4)] ea (hJ1_14 (v3, b3, b4) _ _ ⟨rfl, hS8⟩)
  refine go_alt3 (fun KK hKK => ?_) ?_
  ·refine ge_one2 ?_
   refine ge_make (α := Int) (d := 5) (t := 23) (el := 3) (bytes := 8) (l := 8) (c := 8) (x := (.const (vI 8))) (y := (.const (vI 8))) (ty := 23) (k1 := .i64) (k2 := .i64) (li := 8) (ci := 8) (z := vI 0) (z' := (0 : Int)) (by kernel_rfl) (by kernel_rfl) (by kernel_rfl) rfl rfl (by kernel_rfl) (by kernel_rfl) rfl hS4 (Nat.le_refl _) rfl (by omega) fun v3 w3 _ hS5 => ?_
   refine ge_nil fun a hF => hKK _ _ (RS.of2 (l := []) (by kernel_rfl) trivial trivial) ?_ a hF
   have hS6 := hS5.bring 2 rfl
   have hS7 := hS6.bring 2 rfl
   exact go3_keep [(0, .bool false), (2, pP b4 0), (5, v3), (6, .slice (some ⟨b3, 0, none⟩) 4 4)] ea (hJ1_21 (v3, b3, b4) _ _ ⟨rfl, hS7⟩)
  refine go_alt3 (fun KK hKK => ?_) ?_
  ·refine ge_one2 ?_
   refine gw (some 1) (.cells #[.slice none 0 0, .slice none 0 0, vI 0] 36) (fun b => pP b 0) hS4 fun b5 w3 hx3 hS5 => ?_
   refine ge_nil fun a hF => hKK _ _ (RS.of2 (l := []) (by kernel_rfl) trivial trivial) ?_ a hF
   have hS6 := hS5.bring 2 rfl
   have hS7 := hS6.bring 1 rfl
   have hS8 := hS7.bring 2 rfl
   exact go3_keep [(0, .bool false), (1, pP b5 0), (2, pP b4 0), (6, .slice (some ⟨b3, 0, none⟩) 4 4)] ea (hJ1_26 (b3, b5, b4) _ _ ⟨rfl, hS8⟩)
  exact go_nomore3
 refine go3_join works.t1_8 (fun (x : Nat × Nat) e w => match x with | (b3, b4) => e = [(0, .bool false), (1, pP b3 0), (2, pP b4 0)] ∧ St w0 w [Own.blk b4 (.cells #[vI 0, vI 0] 29 (0, 0)), Own.blk b3 (.cells #[.slice none 0 0, .slice none 0 0, vI 0] 36 (0, 0))]) ?_ fun hJ1_28 => ?_
 ·rintro ⟨b3, b4⟩ _ W1 ⟨rfl, hS4⟩
  replace hS4 : St w0 W1 [Own.blk b4 (.cells #[vI 0, vI 0] 29 (0, 0)), Own.blk b3 (.cells #[.slice none 0 0, .slice none 0 0, vI 0] 36 (0, 0))] := hS4
  refine go_alt3 (fun KK hKK => ?_) ?_
  ·refine ge_one2 ?_
   refine ge_call (d := some 4) (f := 14) (args := #[]) (by kernel_rfl) (image_ok _ _ rfl) ?_
   rintro _ w3 ⟨v3, rfl, hS5⟩
   refine ⟨_, rfl, hS5.below, ?_⟩
   have hS6 := hS4.call hS5
   refine ge_nil fun a hF => hKK _ _ (RS.of2 (l := []) (by kernel_rfl) trivial trivial) ?_ a hF
   have hS7 := hS6.bring 2 rfl
   have hS8 := hS7.bring 2 rfl
   exact go3_keep [(0, .bool false), (1, pP b3 0), (2, pP b4 0), (4, v3)] ea (hJ1_16 (v3, b3, b4) _ _ ⟨rfl, hS8⟩)
  refine go_alt3 (fun KK hKK => ?_) ?_
  ·refine ge_one2 ?_
   refine ge_make (α := Int) (d := 5) (t := 23) (el := 3) (bytes := 8) (l := 8) (c := 8) (x := (.const (vI 8))) (y := (.const (vI 8))) (ty := 23) (k1 := .i64) (k2 := .i64) (li := 8) (ci := 8) (z := vI 0) (z' := (0 : Int)) (by kernel_rfl) (by kernel_rfl) (by kernel_rfl) rfl rfl (by kernel_rfl) (by kernel_rfl) rfl hS4 (Nat.le_refl _) rfl (by omega) fun v3 w3 _ hS5 => ?_
   refine ge_nil fun a hF => hKK _ _ (RS.of2 (l := []) (by kernel_rfl) trivial trivial) ?_ a hF
   have hS6 := hS5.bring 2 rfl
   have hS7 := hS6.bring 2 rfl
   exact go3_keep [(0, .bool false), (1, pP b3 0), (2, pP b4 0), (5, v3)] ea (hJ1_23 (v3, b3, b4) _ _ ⟨rfl, hS7⟩)
  refine go_alt3 (fun KK hKK => ?_) ?_
  ·refine ge_one2 ?_
   refine gw (some 6) (.cells #[vI 5, vI 0, vI 0, vI 0] 3) (fun b => .slice (some ⟨b, 0, none⟩) 4 4) hS4 fun b5 w3 hx3 hS5 => ?_
   refine ge_nil fun a hF => hKK _ _ (RS.of2 (l := []) (by kernel_rfl) trivial trivial) ?_ a hF
   have hS6 := hS5.bring 2 rfl
   have hS7 := hS6.bring 2 rfl
   exact go3_keep [(0, .bool false), (1, pP b3 0), (2, pP b4 0), (6, .slice (some ⟨b5, 0, none⟩) 4 4)] ea (hJ1_26 (b5, b3, b4) _ _ ⟨rfl, hS7⟩)
  exact go_nomore3
 refine go_alt3 (fun KK hKK => ?_) ?_
 ·refine ge_one2 ?_
  refine ge_call (d := some 4) (f := 14) (args := #[]) (by kernel_rfl) (image_ok _ _ rfl) ?_
  rintro _ w1 ⟨v3, rfl, hS2⟩
  refine ⟨_, rfl, hS2.below, ?_⟩
  have hS3 := hS1.call hS2
  refine ge_nil fun a hF => hKK _ _ (RS.of2 (l := []) (by kernel_rfl) trivial trivial) ?_ a hF
  refine go_alt3 (fun KK hKK => ?_) ?_
  ·refine ge_one2 ?_
   refine ge_make (α := Int) (d := 5) (t := 23) (el := 3) (bytes := 8) (l := 8) (c := 8) (x := (.const (vI 8))) (y := (.const (vI 8))) (ty := 23) (k1 := .i64) (k2 := .i64) (li := 8) (ci := 8) (z := vI 0) (z' := (0 : Int)) (by kernel_rfl) (by kernel_rfl) (by kernel_rfl) rfl rfl (by kernel_rfl) (by kernel_rfl) rfl hS3 (Nat.le_refl _) rfl (by omega) fun v4 w2 _ hS4 => ?_
   refine ge_nil fun a hF => hKK _ _ (RS.of2 (l := []) (by kernel_rfl) trivial trivial) ?_ a hF
   have hS16 := hS4.bring 1 rfl
   have hS17 := hS16.bring 1 rfl
   exact go3_keep [(0, .bool false), (4, v3), (5, v4)] ea (hJ1_0 (v3, v4) _ _ ⟨rfl, hS17⟩)
  refine go_alt3 (fun KK hKK => ?_) ?_
  ·refine ge_one2 ?_
   refine gw (some 6) (.cells #[vI 5, vI 0, vI 0, vI 0] 3) (fun b => .slice (some ⟨b, 0, none⟩) 4 4) hS3 fun b3 w2 hx1 hS4 => ?_
   refine ge_nil fun a hF => hKK _ _ (RS.of2 (l := []) (by kernel_rfl) trivial trivial) ?_ a hF
   have hS16 := hS4.bring 1 rfl
   have hS17 := hS16.bring 1 rfl
   exact go3_keep [(0, .bool false), (4, v3), (6, .slice (some ⟨b3, 0, none⟩) 4 4)] ea (hJ1_11 (v3, b3) _ _ ⟨rfl, hS17⟩)
  refine go_alt3 (fun KK hKK => ?_) ?_
  ·refine ge_one2 ?_
   refine gw (some 1) (.cells #[.slice none 0 0, .slice none 0 0, vI 0] 36) (fun b => pP b 0) hS3 fun b3 w2 hx1 hS4 => ?_
   refine ge_nil fun a hF => hKK _ _ (RS.of2 (l := []) (by kernel_rfl) trivial trivial) ?_ a hF
   have hS16 := hS4.bring 1 rfl
   have hS17 := hS16.bring 1 rfl
   exact go3_keep [(0, .bool false), (1, pP b3 0), (4, v3)] ea (hJ1_15 (v3, b3) _ _ ⟨rfl, hS17⟩)
  refine go_alt3 (fun KK hKK => ?_) ?_
  ·refine ge_one2 ?_
   refine gw (some 2) (.cells #[vI 0, vI 0] 29) (fun b => pP b 0) hS3 fun b3 w2 hx1 hS4 => ?_
   refine ge_nil fun a hF => hKK _ _ (RS.of2 (l := []) (by kernel_rfl) trivial trivial) ?_ a hF
   have hS10 := hS4.bring 1 rfl
   have hS11 := hS10.bring 1 rfl
   exact go3_keep [(0, .bool false), (2, pP b3 0), (4, v3)] ea (hJ1_17 (v3, b3) _ _ ⟨rfl, hS11⟩)
  exact go_nomore3
 refine go_alt3 (fun KK hKK => ?_) ?_
 ·refine ge_one2 ?_
  refine ge_make (α := Int) (d := 5) (t := 23) (el := 3) (bytes := 8) (l := 8) (c := 8) (x := (.const (vI 8))) (y := (.const (vI 8))) (ty := 23) (k1 := .i64) (k2 := .i64) (li := 8) (ci := 8) (z := vI 0) (z' := (0 : Int)) (by kernel_rfl) (by kernel_rfl) (by kernel_rfl) rfl rfl (by kernel_rfl) (by kernel_rfl) rfl hS1 (Nat.le_refl _) rfl (by omega) fun v3 w1 _ hS2 => ?_
  refine ge_nil fun a hF => hKK _ _ (RS.of2 (l := []) (by kernel_rfl) trivial trivial) ?_ a hF
  refine go_alt3 (fun KK hKK => ?_) ?_
  ·refine ge_one2 ?_
   refine ge_call (d := some 4) (f := 14) (args := #[]) (by kernel_rfl) (image_ok _ _ rfl) ?_
   rintro _ w2 ⟨v4, rfl, hS3⟩
   refine ⟨_, rfl, hS3.below, ?_⟩
   have hS4 := hS2.call hS3
   refine ge_nil fun a hF => hKK _ _ (RS.of2 (l := []) (by kernel_rfl) trivial trivial) ?_ a hF
   have hS5 := hS4.bring 1 rfl
   exact go3_keep [(0, .bool false), (4, v4), (5, v3)] ea (hJ1_0 (v4, v3) _ _ ⟨rfl, hS5⟩)
  refine go_alt3 (fun KK hKK => ?_) ?_
  ·refine ge_one2 ?_
   refine gw (some 6) (.cells #[vI 5, vI 0, vI 0, vI 0] 3) (fun b => .slice (some ⟨b, 0, none⟩) 4 4) hS2 fun b3 w2 hx1 hS3 => ?_
   refine ge_nil fun a hF => hKK _ _ (RS.of2 (l := []) (by kernel_rfl) trivial trivial) ?_ a hF
   have hS15 := hS3.bring 1 rfl
   have hS16 := hS15.bring 1 rfl
   exact go3_keep [(0, .bool false), (5, v3), (6, .slice (some ⟨b3, 0, none⟩) 4 4)] ea (hJ1_18 (v3, b3) _ _ ⟨rfl, hS16⟩)
  refine go_alt3 (fun KK hKK => ?_) ?_
  ·refine ge_one2 ?_
   refine gw (some 1) (.cells #[.slice none 0 0, .slice none 0 0, vI 0] 36) (fun b => pP b 0) hS2 fun b3 w2 hx1 hS3 => ?_
   refine ge_nil fun a hF => hKK _ _ (RS.of2 (l := []) (by kernel_rfl) trivial trivial) ?_ a hF
   have hS15 := hS3.bring 1 rfl
   have hS16 := hS15.bring 1 rfl
   exact go3_keep [(0, .bool false), (1, pP b3 0), (5, v3)] ea (hJ1_22 (v3, b3) _ _ ⟨rfl, hS16⟩)
  refine go_alt3 (fun KK hKK => ?_) ?_
  ·refine ge_one2 ?_
   refine gw (some 2) (.cells #[vI 0, vI 0] 29) (fun b => pP b 0) hS2 fun b3 w2 hx1 hS3 => ?_
   refine ge_nil fun a hF => hKK _ _ (RS.of2 (l := []) (by kernel_rfl) trivial trivial) ?_ a hF
   have hS9 := hS3.bring 1 rfl
   have hS10 := hS9.bring 1 rfl
   exact go3_keep [(0, .bool false), (2, pP b3 0), (5, v3)] ea (hJ1_24 (v3, b3) _ _ ⟨rfl, hS10⟩)
  exact go_nomore3
 refine go_alt3 (fun KK hKK => ?_) ?_
 ·refine ge_one2 ?_
  refine gw (some 6) (.cells #[vI 5, vI 0, vI 0, vI 0] 3) (fun b => .slice (some ⟨b, 0, none⟩) 4 4) hS1 fun b3 w1 hx1 hS2 => ?_
  refine ge_nil fun a hF => hKK _ _ (RS.of2 (l := []) (by kernel_rfl) trivial trivial) ?_ a hF
  refine go_alt3 (fun KK hKK => ?_) ?_
  ·refine ge_one2 ?_
   refine ge_call (d := some 4) (f := 14) (args := #[]) (by kernel_rfl) (image_ok _ _ rfl) ?_
   rintro _ w2 ⟨v3, rfl, hS3⟩
   refine ⟨_, rfl, hS3.below, ?_⟩
   have hS4 := hS2.call hS3
   refine ge_nil fun a hF => hKK _ _ (RS.of2 (l := []) (by kernel_rfl) trivial trivial) ?_ a hF
   have hS5 := hS4.bring 1 rfl
   exact go3_keep [(0, .bool false), (4, v3), (6, .slice (some ⟨b3, 0, none⟩) 4 4)] ea (hJ1_11 (v3, b3) _ _ ⟨rfl, hS5⟩)
  refine go_alt3 (fun KK hKK => ?_) ?_
  ·refine ge_one2 ?_
   refine ge_make (α := Int) (d := 5) (t := 23) (el := 3) (bytes := 8) (l := 8) (c := 8) (x := (.const (vI 8))) (y := (.const (vI 8))) (ty := 23) (k1 := .i64) (k2 := .i64) (li := 8) (ci := 8) (z := vI 0) (z' := (0 : Int)) (by kernel_rfl) (by kernel_rfl) (by kernel_rfl) rfl rfl (by kernel_rfl) (by kernel_rfl) rfl hS2 (Nat.le_refl _) rfl (by omega) fun v3 w2 _ hS3 => ?_
   refine ge_nil fun a hF => hKK _ _ (RS.of2 (l := []) (by kernel_rfl) trivial trivial) ?_ a hF
   have hS4 := hS3.bring 1 rfl
   exact go3_keep [(0, .bool false), (5, v3), (6, .slice (some ⟨b3, 0, none⟩) 4 4)] ea (hJ1_18 (v3, b3) _ _ ⟨rfl, hS4⟩)
  refine go_alt3 (fun KK hKK => ?_) ?_
  ·refine ge_one2 ?_
   refine gw (some 1) (.cells #[.slice none 0 0, .slice none 0 0, vI 0] 36) (fun b => pP b 0) hS2 fun b4 w2 hx2 hS3 => ?_
   refine ge_nil fun a hF => hKK _ _ (RS.of2 (l := []) (by kernel_rfl) trivial trivial) ?_ a hF
   have hS14 := hS3.bring 1 rfl
   have hS15 := hS14.bring 1 rfl
   exact go3_keep [(0, .bool false), (1, pP b4 0), (6, .slice (some ⟨b3, 0, none⟩) 4 4)] ea (hJ1_25 (b3, b4) _ _ ⟨rfl, hS15⟩)
  refine go_alt3 (fun KK hKK => ?_) ?_
  ·refine ge_one2 ?_
   refine gw (some 2) (.cells #[vI 0, vI 0] 29) (fun b => pP b 0) hS2 fun b4 w2 hx2 hS3 => ?_
   refine ge_nil fun a hF => hKK _ _ (RS.of2 (l := []) (by kernel_rfl) trivial trivial) ?_ a hF
   have hS9 := hS3.bring 1 rfl
   have hS10 := hS9.bring 1 rfl
   exact go3_keep [(0, .bool false), (2, pP b4 0), (6, .slice (some ⟨b3, 0, none⟩) 4 4)] ea (hJ1_27 (b3, b4) _ _ ⟨rfl, hS10⟩)
  exact go_nomore3
 refine go_alt3 (fun KK hKK => ?_) ?_
 ·refine ge_one2 ?_
  refine gw (some 1) (.cells #[.slice none 0 0, .slice none 0 0, vI 0] 36) (fun b => pP b 0) hS1 fun b3 w1 hx1 hS2 => ?_
  refine ge_nil fun a hF => hKK _ _ (RS.of2 (l := []) (by kernel_rfl) trivial trivial) ?_ a hF
  refine go_alt3 (fun KK hKK => ?_) ?_
  ·refine ge_one2 ?_
   refine ge_call (d := some 4) (f := 14) (args := #[]) (by kernel_rfl) (image_ok _ _ rfl) ?_
   rintro _ w2 ⟨v3, rfl, hS3⟩
   refine ⟨_, rfl, hS3.below, ?_⟩
   have hS4 := hS2.call hS3
   refine ge_nil fun a hF => hKK _ _ (RS.of2 (l := []) (by kernel_rfl) trivial trivial) ?_ a hF
   have hS5 := hS4.bring 1 rfl
   exact go3_keep [(0, .bool false), (1, pP b3 0), (4, v3)] ea (hJ1_15 (v3, b3) _ _ ⟨rfl, hS5⟩)
  refine go_alt3 (fun KK hKK => ?_) ?_
  ·refine ge_one2 ?_
   refine ge_make (α := Int) (d := 5) (t := 23) (el := 3) (bytes := 8) (l := 8) (c := 8) (x := (.const (vI 8))) (y := (.const (vI 8))) (ty := 23) (k1 := .i64) (k2 := .i64) (li := 8) (ci := 8) (z := vI 0) (z' := (0 : Int)) (by kernel_rfl) (by kernel_rfl) (by kernel_rfl) rfl rfl (by kernel_rfl) (by kernel_rfl) rfl hS2 (Nat.le_refl _) rfl (by omega) fun v3 w2 _ hS3 => ?_
   refine ge_nil fun a hF => hKK _ _ (RS.of2 (l := []) (by kernel_rfl) trivial trivial) ?_ a hF
   have hS4 := hS3.bring 1 rfl
   exact go3_keep [(0, .bool false), (1, pP b3 0), (5, v3)] ea (hJ1_22 (v3, b3) _ _ ⟨rfl, hS4⟩)
  refine go_alt3 (fun KK hKK => ?_) ?_
  ·refine ge_one2 ?_
   refine gw (some 6) (.cells #[vI 5, vI 0, vI 0, vI 0] 3) (fun b => .slice (some ⟨b, 0, none⟩) 4 4) hS2 fun b4 w2 hx2 hS3 => ?_
   refine ge_nil fun a hF => hKK _ _ (RS.of2 (l := []) (by kernel_rfl) trivial trivial) ?_ a hF
   have hS4 := hS3.bring 1 rfl
   exact go3_keep [(0, .bool false), (1, pP b3 0), (6, .slice (some ⟨b4, 0, none⟩) 4 4)] ea (hJ1_25 (b4, b3) _ _ ⟨rfl, hS4⟩)
  refine go_alt3 (fun KK hKK => ?_) ?_
  ·refine ge_one2 ?_
   refine gw (some 2) (.cells #[vI 0, vI 0] 29) (fun b => pP b 0) hS2 fun b4 w2 hx2 hS3 => ?_
   refine ge_nil fun a hF => hKK _ _ (RS.of2 (l := []) (by kernel_rfl) trivial trivial) ?_ a hF
   have hS8 := hS3.bring 1 rfl
   have hS9 := hS8.bring 1 rfl
   exact go3_keep [(0, .bool false), (1, pP b3 0), (2, pP b4 0)] ea (hJ1_28 (b3, b4) _ _ ⟨rfl, hS9⟩)
  exact go_nomore3
 refine go_alt3 (fun KK hKK => ?_) ?_
 ·refine ge_one2 ?_
  refine gw (some 2) (.cells #[vI 0, vI 0] 29) (fun b => pP b 0) hS1 fun b3 w1 hx1 hS2 => ?_
  refine ge_nil fun a hF => hKK _ _ (RS.of2 (l := []) (by kernel_rfl) trivial trivial) ?_ a hF
  refine go_alt3 (fun KK hKK => ?_) ?_
  ·refine ge_one2 ?_
   refine ge_call (d := some 4) (f := 14) (args := #[]) (by kernel_rfl) (image_ok _ _ rfl) ?_
   rintro _ w2 ⟨v3, rfl, hS3⟩
   refine ⟨_, rfl, hS3.below, ?_⟩
   have hS4 := hS2.call hS3
   refine ge_nil fun a hF => hKK _ _ (RS.of2 (l := []) (by kernel_rfl) trivial trivial) ?_ a hF
   have hS5 := hS4.bring 1 rfl
   exact go3_keep [(0, .bool false), (2, pP b3 0), (4, v3)] ea (hJ1_17 (v3, b3) _ _ ⟨rfl, hS5⟩)
  refine go_alt3 (fun KK hKK => ?_) ?_
  ·refine ge_one2 ?_
   refine ge_make (α := Int) (d := 5) (t := 23) (el := 3) (bytes := 8) (l := 8) (c := 8) (x := (.const (vI 8))) (y := (.const (vI 8))) (ty := 23) (k1 := .i64) (k2 := .i64) (li := 8) (ci := 8) (z := vI 0) (z' := (0 : Int)) (by kernel_rfl) (by kernel_rfl) (by kernel_rfl) rfl rfl (by kernel_rfl) (by kernel_rfl) rfl hS2 (Nat.le_refl _) rfl (by omega) fun v3 w2 _ hS3 => ?_
   refine ge_nil fun a hF => hKK _ _ (RS.of2 (l := []) (by kernel_rfl) trivial trivial) ?_ a hF
   have hS4 := hS3.bring 1 rfl
   exact go3_keep [(0, .bool false), (2, pP b3 0), (5, v3)] ea (hJ1_24 (v3, b3) _ _ ⟨rfl, hS4⟩)
  refine go_alt3 (fun KK hKK => ?_) ?_
  ·refine ge_one2 ?_
   refine gw (some 6) (.cells #[vI 5, vI 0, vI 0, vI 0] 3) (fun b => .slice (some ⟨b, 0, none⟩) 4 4) hS2 fun b4 w2 hx2 hS3 => ?_
   refine ge_nil fun a hF => hKK _ _ (RS.of2 (l := []) (by kernel_rfl) trivial trivial) ?_ a hF
   have hS4 := hS3.bring 1 rfl
   exact go3_keep [(0, .bool false), (2, pP b3 0), (6, .slice (some ⟨b4, 0, none⟩) 4 4)] ea (hJ1_27 (b4, b3) _ _ ⟨rfl, hS4⟩)
  refine go_alt3 (fun KK hKK => ?_) ?_
  ·refine ge_one2 ?_
   refine gw (some 1) (.cells #[.slice none 0 0, .slice none 0 0, vI 0] 36) (fun b => pP b 0) hS2 fun b4 w2 hx2 hS3 => ?_
   refine ge_nil fun a hF => hKK _ _ (RS.of2 (l := []) (by kernel_rfl) trivial trivial) ?_ a hF
   have hS4 := hS3.bring 1 rfl
   exact go3_keep [(0, .bool false), (1, pP b4 0), (2, pP b3 0)] ea (hJ1_28 (b4, b3) _ _ ⟨rfl, hS4⟩)
  exact go_nomore3
 exact go_nomore3
theorem works_ok (K : Nat)  (w0 : World) (r : Bool) (h : works.f K = some r) :
  Calls Try.prog 7 #[] w0 (works.Post w0 r) := by
 have hS := St.start w0
 unfold works.f at h
 refine calls_enter (n := 38) (args := []) (fn := Try.f7) rfl rfl rfl rfl ?_
 show WE _ _ _ _ [] _
 refine ws fun K1 hK1 => ?_
 refine wr [(0, 0)] ?_
 refine gb0 [0] [(0, .bool false)] ?_
 refine gn hK1 ?_
 refine ws fun K2 hK2 => ?_
 rcases hq1 : works.p0 K with _ | (⟨m3, m4, z4, z5, z6⟩ | rr1)
 ·rw [hq1] at h; cases h
 ·rw [hq1] at h
  simp only [] at h
  refine we_keep (e' := [(0, .bool false)]) ea (works_p0 K w0 _ hq1 _ hS _ ?_)
  rintro _ a w3 ⟨rfl, b5, b6, v3, v4, hS5, hF⟩
  replace hS5 : St w0 w3 [Own.blk b5 (.cells #[v3, v4, vI z4] 36 (0, 0)), Own.blk b6 (.cells #[vI z5, vI z6] 29 (0, 0)), Own.of v3 3 m3, Own.of v4 56 m4] := hS5
  refine hK2 [(1, pP b5 0), (2, pP b6 0)] w3 ?_ a hF
  refine ws fun K3 hK3 => ?_
  refine wr [(0, 0), (1, 0), (2, 0), (3, 0), (4, 0), (5, 0), (6, 0), (7, 0), (8, 0), (9, 0), (10, 0), (11, 0), (12, 0), (13, 0), (14, 0), (15, 0), (16, 0), (17, 0), (18, 0), (19, 0), (20, 0), (21, 0), (22, 0), (23, 0), (24, 0), (25, 1), (26, 1), (27, 0), (28, 0)] ?_
  refine gb [0, 1, 2, 3] [(13, .bool (z5 == 0)), (12, .bool (z5 == 0)), (11, vI z5), (10, pP b6 0)] [.loaded ⟨b6, 0, none⟩ (vI z5)] ⟨hS5.c 1, trivial⟩ ?_
  by_cases hc1 : z5 = 0
  ·rw [if_pos hc1] at h
   refine gk 13 (z5 == 0) true (beq_iff_eq.2 hc1) ?_
   refine gb [4, 5, 6, 7, 8] [(18, .bool (z4 == 28)), (17, .bool (z4 == 28)), (16, .bool (z4 == 28)), (15, vI z4), (14, pP b5 2)] [.loaded ⟨b5, 2, none⟩ (vI z4)] ⟨hS5.c 0, trivial⟩ ?_
   by_cases hc2 : z4 = 28
   ·rw [if_pos hc2] at h
    refine gk 18 (z4 == 28) true (beq_iff_eq.2 hc2) ?_
    refine gb [9, 10] [(20, v3), (19, pP b5 0)] [.loaded ⟨b5, 0, none⟩ (v3)] ⟨hS5.c 0, trivial⟩ ?_
    obtain ⟨Z1, cz1, rfl⟩ := hS5.open 2 rfl
    refine gb0 [11, 12, 13, 14] [(24, .bool ((m3.length : Int) == 8)), (23, .bool ((m3.length : Int) == 8)), (22, .bool ((m3.length : Int) == 8)), (21, vI (m3.length : Int))] ?_
    by_cases hc3 : (m3.length : Int) = 8
    ·rw [if_pos hc3] at h
     refine gk 24 ((m3.length : Int) == 8) true (beq_iff_eq.2 hc3) ?_
     refine gb [15, 16] [(26, (.slice Z1 m3.length cz1)), (25, pP b5 0)] [.loaded ⟨b5, 0, none⟩ ((.slice Z1 m3.length cz1))] ⟨hS5.c 0, trivial⟩ ?_
     rcases hx3 : m3[0]? with _ | e1
     ·rw [hx3] at h; cases h
     rw [hx3] at h
     simp only [] at h
     refine gi 27 0 23 3 1 m3.length cz1 (.tmp 26) (.const (vI 0)) Z1 .i64 0 0 ((hS5.rdAt 2 rfl).eqSome (pos_of_get hx3)) rfl (lt_of_get hx3) ?_
     refine gb [18, 19, 20, 21] [(31, .bool (e1 == 15)), (30, .bool (e1 == 15)), (29, .bool (e1 == 15)), (28, vI e1)] [.loaded ⟨blkOf Z1, offOf Z1 + 0 * 1, none⟩ (vI e1)] ⟨RdL.cell (j := 0) (hS5.rdAt 2 rfl) hx3 rfl, trivial⟩ ?_
     by_cases hc4 : e1 = 15
     ·rw [if_pos hc4] at h
      refine gk 31 (e1 == 15) true (beq_iff_eq.2 hc4) ?_
      refine gb [22, 23, 24] [(34, .agg #[vI 1, vI 30]), (33, v4), (32, pP b5 1)] [.loaded ⟨b5, 1, none⟩ (v4)] ⟨hS5.c 0, trivial⟩ ?_
      refine gw (some 35) (.cells #[vI 1, vI 30] 56) (fun b => .slice (some ⟨b, 0, none⟩) 1 1) hS5 fun b7 w4 hx4 hS6 => ?_
      obtain ⟨Z2, cz2, rfl⟩ := hS6.open 4 rfl
      rcases hq2 : punctualsame_Same_api_Put.f K m4 ([(⟨1, 30⟩ : SPut)] : List SPut) with _ | r1
      ·rw [hq2] at h; cases h
      rw [hq2] at h
      simp only [] at h
      refine ge_call (d := some 36) (f := 21) (args := #[(.slice Z2 m4.length cz2), .slice (some ⟨b7, 0, none⟩) 1 1]) (by kernel_rfl) (punctualsame_Same_api_Put_ok K m4 Z2 cz2 ([(⟨1, 30⟩ : SPut)] : List SPut) (some ⟨b7, 0, none⟩) 1 _ (hS6.rdAt 4 rfl) (hS6.capAt 4 rfl) (hS6.rdBlk 0 ([(⟨1, 30⟩ : SPut)] : List SPut) rfl rfl rfl) (Nat.le_refl _) _ hq2) ?_
      rintro _ w5 ⟨rfl, hS7⟩
      refine ⟨_, rfl, hS7.below, ?_⟩
      have hS8 := hS6.call hS7
      refine gb0 [27, 28] [(0, .bool r1), (37, .bool r1)] ?_
      refine gn hK3 ?_
      have hS9 := hS8.takeN 0
      obtain rfl := si h
      exact we_ret (pr0 [.tmp 0] [.bool r1] ⟨rfl, hS9⟩)
     ·rw [if_neg hc4] at h
      refine gk 31 (e1 == 15) false (beq_eq_false_iff_ne.2 hc4) ?_
      refine gb0 [22, 23, 24] [(34, undef), (33, undef), (32, undef)] ?_
      refine ge_off rfl rfl rfl (by kernel_rfl) ?_
      refine ge_off rfl rfl rfl (by kernel_rfl) ?_
      refine gb0 [27, 28] [(0, .bool false), (37, .bool false)] ?_
      refine gn hK3 ?_
      have hS10 := hS5.takeN 0
      obtain rfl := si h
      exact we_ret (pr0 [.tmp 0] [.bool false] ⟨rfl, hS10⟩)
    ·rw [if_neg hc3] at h
     refine gk 24 ((m3.length : Int) == 8) false (beq_eq_false_iff_ne.2 hc3) ?_
     refine gb0 [15, 16, 17, 18, 19, 20, 21, 22, 23, 24] [(34, undef), (33, undef), (32, undef), (31, .bool false), (30, .bool false), (29, undef), (28, undef), (27, undef), (26, undef), (25, undef)] ?_
     refine ge_off rfl rfl rfl (by kernel_rfl) ?_
     refine ge_off rfl rfl rfl (by kernel_rfl) ?_
     refine gb0 [27, 28] [(0, .bool false), (37, .bool false)] ?_
     refine gn hK3 ?_
     have hS11 := hS5.takeN 0
     obtain rfl := si h
     exact we_ret (pr0 [.tmp 0] [.bool false] ⟨rfl, hS11⟩)
   ·rw [if_neg hc2] at h
    refine gk 18 (z4 == 28) false (beq_eq_false_iff_ne.2 hc2) ?_
    refine gb0 [9, 10, 11, 12, 13, 14, 15, 16, 17, 18, 19, 20, 21, 22, 23, 24] [(34, undef), (33, undef), (32, undef), (31, .bool false), (30, .bool false), (29, undef), (28, undef), (27, undef), (26, undef), (25, undef), (24, .bool false), (23, .bool false), (22, undef), (21, undef), (20, undef), (19, undef)] ?_
    refine ge_off rfl rfl rfl (by kernel_rfl) ?_
    refine ge_off rfl rfl rfl (by kernel_rfl) ?_
    refine gb0 [27, 28] [(0, .bool false), (37, .bool false)] ?_
    refine gn hK3 ?_
    have hS12 := hS5.takeN 0
    obtain rfl := si h
    exact we_ret (pr0 [.tmp 0] [.bool false] ⟨rfl, hS12⟩)
  ·rw [if_neg hc1] at h
   refine gk 13 (z5 == 0) false (beq_eq_false_iff_ne.2 hc1) ?_
   refine gb0 [4, 5, 6, 7, 8, 9, 10, 11, 12, 13, 14, 15, 16, 17, 18, 19, 20, 21, 22, 23, 24] [(34, undef), (33, undef), (32, undef), (31, .bool false), (30, .bool false), (29, undef), (28, undef), (27, undef), (26, undef), (25, undef), (24, .bool false), (23, .bool false), (22, undef), (21, undef), (20, undef), (19, undef), (18, .bool false), (17, .bool false), (16, undef), (15, undef), (14, undef)] ?_
   refine ge_off rfl rfl rfl (by kernel_rfl) ?_
   refine ge_off rfl rfl rfl (by kernel_rfl) ?_
   refine gb0 [27, 28] [(0, .bool false), (37, .bool false)] ?_
   refine gn hK3 ?_
   have hS13 := hS5.takeN 0
   obtain rfl := si h
   exact we_ret (pr0 [.tmp 0] [.bool false] ⟨rfl, hS13⟩)
 ·rw [hq1] at h
  simp only [] at h
  refine we_keep (e' := [(0, .bool false)]) ea (works_p0 K w0 _ hq1 _ hS _ ?_)
  rintro _ a w1 ⟨_, rfl, hb⟩
  obtain rfl := si h
  exact hb

/-! punctual/punctuallaw.WcetMet -/
abbrev WcetMet.Post (w0 : World) (r : Bool) (e : Ending) (w : World) : Prop := e = .returned (.bool r) ∧ St w0 w []
def WcetMet.p0 (K : Nat) : Option (Unit ⊕ Bool) :=
  match timed.f K with
  | none => none
  | some r1 =>
   if r1 = true then
    match works.f K with
    | none => none
    | some r2 =>
     if r2 = true then
      some (.inl ())
     else
      some (.inr false)
   else
    some (.inr false)
def WcetMet.r1 (l0 : List SIns) : Nat → Option (Nat ⊕ (Unit ⊕ Bool))
 | i1 =>
  if (i1 : Int) < (l0.length : Int) then
   match l0[i1]? with
   | none => none
   | some e1 =>
    if e1.Op = 12 then
     some (.inr (.inr true))
    else
     if e1.Op = 15 then
      some (.inr (.inr true))
     else
      some (.inl (i1 + 1))
  else
   some (.inr (.inl ()))
def WcetMet.f (K : Nat) (l0 : List SIns) (l1 : List Int) (l2 : List Int) : Option Bool :=
 match WcetMet.p0 K with
 | none => none
 | some (.inl _) =>
  if (l0.length : Int) > 3000 then
   some true
  else
   match iter (WcetMet.r1 l0) K 0 with
   | none => none
   | some (.inl _) =>
    match wcet_Analyse.f K l0 with
    | none => none
    | some r3 =>
     match mach_Run.f K l0 l1 l2 with
     | none => none
     | some r4 =>
      if r3.2.Code = 0 then
       if r4.2.Code = 0 then
        some (r4.1.Steps == r3.1.Worst)
       else
        some true
      else
       some true
   | some (.inr rr1) =>
    some rr1
 | some (.inr rr2) =>
  some rr2
abbrev WcetMet.A0 (w0 : World) (l0 : List SIns) (A0 : Option Addr) (c0 : Nat) (l1 : List Int) (A1 : Option Addr) (c1 : Nat) (l2 : List Int) (A2 : Option Addr) (c2 : Nat) : Unit → Act → World → Prop := fun (s : Unit) a w => St w0 w [] ∧ Frm 64 a [(0, .slice A0 l0.length c0), (1, .slice A1 l1.length c1), (2, .slice A2 l2.length c2)]
abbrev WcetMet.B0 (w0 : World) : Bool → Exit → Act → World → Prop := Rets Try.prog Try.f4 (WcetMet.Post w0)
theorem WcetMet_p0 (K : Nat) (w0 : World) (l0 : List SIns) (A0 : Option Addr) (c0 : Nat) (l1 : List Int) (A1 : Option Addr) (c1 : Nat) (l2 : List Int) (A2 : Option Addr) (c2 : Nat) (hR0 : RdL w0 A0 l0) (hL0 : l0.length ≤ c0) (hR1 : RdL w0 A1 l1) (hL1 : l1.length ≤ c1) (hR2 : RdL w0 A2 l2) (hL2 : l2.length ≤ c2) (o : Unit ⊕ Bool) (h : WcetMet.p0 K = some o) (w : World) (hS : St w0 w []) (Q : Exit → Act → World → Prop) (hQ : ∀ x a w, Outs (WcetMet.A0 w0 l0 A0 c0 l1 A1 c1 l2 A2 c2) (WcetMet.B0 w0) o x a w → Q x a w) : WE Try.prog 64 (subF Try.f4 [1, 0]) Q [(0, .slice A0 l0.length c0), (1, .slice A1 l1.length c1), (2, .slice A2 l2.length c2), (6, .bool false)] w := by
 simp only [WcetMet.p0] at h
 refine ws fun K3 hK3 => ?_
 refine wr [(0, 1), (1, 0), (2, 0), (3, 1), (4, 0), (5, 0)] ?_
 rcases hq1 : timed.f K with _ | r1
 ·rw [hq1] at h; cases h
 rw [hq1] at h
 simp only [] at h
 refine ge_call (d := some 13) (f := 6) (args := #[]) (by kernel_rfl) (timed_ok K _ _ hq1) ?_
 rintro _ w1 ⟨rfl, hS1⟩
 refine ⟨_, rfl, hS1.below, ?_⟩
 have hS2 := hS.call hS1
 refine gb0 [1, 2] [(15, .bool (!r1)), (14, .bool (!r1))] ?_
 by_cases hc1 : r1 = true
 ·rw [if_pos hc1] at h
  refine gk 15 (!r1) false (congrArg (fun z => !z) hc1) ?_
  rcases hq2 : works.f K with _ | r2
  ·rw [hq2] at h; cases h
  rw [hq2] at h
  simp only [] at h
  refine ge_call (d := some 16) (f := 7) (args := #[]) (by kernel_rfl) (works_ok K _ _ hq2) ?_
  rintro _ w2 ⟨rfl, hS3⟩
  refine ⟨_, rfl, hS3.below, ?_⟩
  have hS4 := hS2.call hS3
  refine gb0 [4, 5] [(18, .bool (!r2)), (17, .bool (!r2))] ?_
  refine gn hK3 ?_
  by_cases hc2 : r2 = true
  ·rw [if_pos hc2] at h
   refine wk 18 (!r2) false (congrArg (fun z => !z) hc2) ?_
   refine we_false (by kernel_rfl) ?_
   obtain rfl := si h
   exact we_skip fun a hF => hQ _ _ _ (Outs.again ⟨hS4, hF.weaken ea⟩)
  ·rw [if_neg hc2] at h
   refine wk 18 (!r2) true (congrArg (fun z => !z) (Bool.eq_false_iff.2 hc2)) ?_
   refine we_true (by kernel_rfl) ?_
   refine ws fun K4 hK4 => ?_
   refine wr [(0, 0)] ?_
   refine gb0 [0] [(6, .bool false)] ?_
   refine gn hK4 ?_
   obtain rfl := si h
   exact we_ret fun a hF => hQ _ _ _ (Outs.out nofun ⟨rfl, (pr0 [.tmp 6] [.bool false] ⟨rfl, hS4⟩) a hF⟩)
 ·rw [if_neg hc1] at h
  refine gk 15 (!r1) true (congrArg (fun z => !z) (Bool.eq_false_iff.2 hc1)) ?_
  refine ge_off rfl rfl rfl (by kernel_rfl) ?_
  refine gb0 [4, 5] [(18, .bool true), (17, undef)] ?_
  refine gn hK3 ?_
  refine we_true (by kernel_rfl) ?_
  refine ws fun K5 hK5 => ?_
  refine wr [(0, 0)] ?_
  refine gb0 [0] [(6, .bool false)] ?_
  refine gn hK5 ?_
  obtain rfl := si h
  exact we_ret fun a hF => hQ _ _ _ (Outs.out nofun ⟨rfl, (pr0 [.tmp 6] [.bool false] ⟨rfl, hS2⟩) a hF⟩)
abbrev WcetMet.A1 (w0 : World) (l0 : List SIns) (A0 : Option Addr) (c0 : Nat) (l1 : List Int) (A1 : Option Addr) (c1 : Nat) (l2 : List Int) (A2 : Option Addr) (c2 : Nat) : Nat → Act → World → Prop := fun (s : Nat) a w => St w0 w [] ∧ Frm 64 a [(0, .slice A0 l0.length c0), (1, .slice A1 l1.length c1), (2, .slice A2 l2.length c2), (22, .slice A0 l0.length c0), (23, vI (l0.length : Int)), (24, vI (s : Int))]
abbrev WcetMet.B1 (w0 : World) (l0 : List SIns) (A0 : Option Addr) (c0 : Nat) (l1 : List Int) (A1 : Option Addr) (c1 : Nat) (l2 : List Int) (A2 : Option Addr) (c2 : Nat) : (Unit ⊕ Bool) → Exit → Act → World → Prop := Exits 0 (fun (s : Unit) a w => St w0 w [] ∧ Frm 64 a [(0, .slice A0 l0.length c0), (1, .slice A1 l1.length c1), (2, .slice A2 l2.length c2)]) (Rets Try.prog Try.f4 (WcetMet.Post w0))
theorem WcetMet_r1 (K : Nat) (w0 : World) (l0 : List SIns) (A0 : Option Addr) (c0 : Nat) (l1 : List Int) (A1 : Option Addr) (c1 : Nat) (l2 : List Int) (A2 : Option Addr) (c2 : Nat) (hR0 : RdL w0 A0 l0) (hL0 : l0.length ≤ c0) (hR1 : RdL w0 A1 l1) (hL1 : l1.length ≤ c1) (hR2 : RdL w0 A2 l2) (hL2 : l2.length ≤ c2) (hc3 : ¬ ((l0.length : Int) > 3000)) (s : Nat) (o : Nat ⊕ (Unit ⊕ Bool)) (h : WcetMet.r1 l0 s = some o) (a : Act) (w : World) (hA : WcetMet.A1 w0 l0 A0 c0 l1 A1 c1 l2 A2 c2 s a w) (Q : Exit → Act → World → Prop) (hQ : ∀ x a w, Outs (WcetMet.A1 w0 l0 A0 c0 l1 A1 c1 l2 A2 c2) (WcetMet.B1 w0 l0 A0 c0 l1 A1 c1 l2 A2 c2) o x a w → Q x a w) : (subF Try.f4 [1, 1, 1, 0, 1, 0, 0]).wp Try.prog Q a w := by
 obtain ⟨i1, hs⟩ : ∃ z, z = s := ⟨s, rfl⟩
 subst hs
 obtain ⟨hS, hF⟩ := hA
 replace hS : St w0 w [] := hS
 simp only [WcetMet.r1] at h
 refine (?_ : WE Try.prog 64 (subF Try.f4 [1, 1, 1, 0, 1, 0, 0]) Q [(0, .slice A0 l0.length c0), (1, .slice A1 l1.length c1), (2, .slice A2 l2.length c2), (22, .slice A0 l0.length c0), (23, vI (l0.length : Int)), (24, vI (i1 : Int))] w) a hF
 clear hF a
 refine ws fun K11 hK11 => ?_
 refine wr [(0, 0)] ?_
 refine gb0 [0] [(25, .bool (decide ((i1 : Int) < (l0.length : Int))))] ?_
 refine gn hK11 ?_
 refine ws fun K12 hK12 => ?_
 by_cases hc4 : (i1 : Int) < (l0.length : Int)
 ·rw [if_pos hc4] at h
  refine wk 25 (decide ((i1 : Int) < (l0.length : Int))) true (decide_eq_true hc4) ?_
  refine we_true (by kernel_rfl) ?_
  refine we_skip fun a hF => hK12 _ _ ?_ a hF
  refine ws fun K13 hK13 => ?_
  refine we_block ?_
  refine ws fun K14 hK14 => ?_
  refine wr [(0, 0), (1, 0), (2, 1), (3, 2)] ?_
  rcases hx1 : l0[i1]? with _ | e1
  ·rw [hx1] at h; cases h
  rw [hx1] at h
  simp only [] at h
  refine gi 26 0 22 41 3 l0.length c0 (.tmp 22) (.tmp 24) A0 .i64 (i1 : Int) i1 ((hS.rd hR0).eqSome (pos_of_get hx1)) rfl (lt_of_get hx1) ?_
  refine gb [1] [(27, .agg #[vI e1.Op, vI e1.A, vI e1.B])] [.loaded ⟨blkOf A0, offOf A0 + i1 * 3, none⟩ (vI e1.Op), .loaded ⟨blkOf A0, offOf A0 + i1 * 3 + 1, none⟩ (vI e1.A), .loaded ⟨blkOf A0, offOf A0 + i1 * 3 + 2, none⟩ (vI e1.B)] ⟨RdL.cell (j := 0) (hS.rd hR0) hx1 rfl, RdL.cell (j := 1) (hS.rd hR0) hx1 rfl, RdL.cell (j := 2) (hS.rd hR0) hx1 rfl, trivial⟩ ?_
  refine gw (some 8) (.cells #[vI 0, vI 0, vI 0] 41) (fun b => pP b 0) hS fun b1 w4 hx2 hS6 => ?_
  refine gs b1 0 #[vI 0, vI 0, vI 0] 41 [vI e1.Op, vI e1.A, vI e1.B] hS6 fun w5 hS7 => ?_
  have hS8 : St w0 w5 [Own.blk b1 (.cells #[vI e1.Op, vI e1.A, vI e1.B] 41 (0, 0))] := hS7
  refine gn hK14 ?_
  refine ws fun K15 hK15 => ?_
  refine wr [(0, 0), (1, 0), (2, 0), (3, 0), (4, 0), (5, 0), (6, 0), (7, 0)] ?_
  refine gb [0, 1, 2, 3] [(31, .bool (e1.Op == 12)), (30, .bool (e1.Op == 12)), (29, vI e1.Op), (28, pP b1 0)] [.loaded ⟨b1, 0, none⟩ (vI e1.Op)] ⟨hS8.c 0, trivial⟩ ?_
  by_cases hc5 : e1.Op = 12
  ·rw [if_pos hc5] at h
   refine gk 31 (e1.Op == 12) true (beq_iff_eq.2 hc5) ?_
   refine gb0 [4, 5, 6, 7] [(35, .bool true), (34, undef), (33, undef), (32, undef)] ?_
   refine gn hK15 ?_
   refine we_true (by kernel_rfl) ?_
   refine ws fun K16 hK16 => ?_
   refine wr [(0, 0)] ?_
   refine gb0 [0] [(6, .bool true)] ?_
   refine gn hK16 ?_
   have hS9 := hS8.takeN 0
   obtain rfl := si h
   exact we_ret fun a hF => hQ _ _ _ (Outs.out nofun (Exits.on ⟨rfl, (pr0 [.tmp 6] [.bool true] ⟨rfl, hS9⟩) a hF⟩))
  ·rw [if_neg hc5] at h
   refine gk 31 (e1.Op == 12) false (beq_eq_false_iff_ne.2 hc5) ?_
   refine gb [4, 5, 6, 7] [(35, .bool (e1.Op == 15)), (34, .bool (e1.Op == 15)), (33, vI e1.Op), (32, pP b1 0)] [.loaded ⟨b1, 0, none⟩ (vI e1.Op)] ⟨hS8.c 0, trivial⟩ ?_
   refine gn hK15 ?_
   by_cases hc6 : e1.Op = 15
   ·rw [if_pos hc6] at h
    refine wk 35 (e1.Op == 15) true (beq_iff_eq.2 hc6) ?_
    refine we_true (by kernel_rfl) ?_
    refine ws fun K17 hK17 => ?_
    refine wr [(0, 0)] ?_
    refine gb0 [0] [(6, .bool true)] ?_
    refine gn hK17 ?_
    have hS10 := hS8.takeN 0
    obtain rfl := si h
    exact we_ret fun a hF => hQ _ _ _ (Outs.out nofun (Exits.on ⟨rfl, (pr0 [.tmp 6] [.bool true] ⟨rfl, hS10⟩) a hF⟩))
   ·rw [if_neg hc6] at h
    refine wk 35 (e1.Op == 15) false (beq_eq_false_iff_ne.2 hc6) ?_
    refine we_false (by kernel_rfl) ?_
    refine we_skip fun a hF => hK13 _ _ ?_ a hF
    refine wr [(0, 0), (1, 0)] ?_
    refine ge_addn (d := 36) (ty := 3) (x := (.tmp 24)) (y := (.const (vI 1))) (t := 3) (t2 := 3) (k := .i64) (m := i1) (by kernel_rfl) (by kernel_rfl) (by kernel_rfl) (by have h0 := hR0.small; omega) ?_
    refine gb0 [1] [(24, vI ((i1 + 1 : Nat) : Int))] ?_
    have hS11 := hS8.takeN 0
    obtain rfl := si h
    exact ge_nil fun a hF => hQ _ _ _ (Outs.again ⟨hS11, hF.weaken ea⟩)
 ·rw [if_neg hc4] at h
  refine wk 25 (decide ((i1 : Int) < (l0.length : Int))) false (decide_eq_false hc4) ?_
  refine we_false (by kernel_rfl) ?_
  obtain rfl := si h
  exact we_exit fun a hF => hQ _ _ _ (Outs.out nofun (Exits.here ⟨hS, hF.weaken ea⟩))
theorem WcetMet_ok (K : Nat) (l0 : List SIns) (A0 : Option Addr) (c0 : Nat) (l1 : List Int) (A1 : Option Addr) (c1 : Nat) (l2 : List Int) (A2 : Option Addr) (c2 : Nat) (w0 : World) (hR0 : RdL w0 A0 l0) (hL0 : l0.length ≤ c0) (hR1 : RdL w0 A1 l1) (hL1 : l1.length ≤ c1) (hR2 : RdL w0 A2 l2) (hL2 : l2.length ≤ c2) (r : Bool) (h : WcetMet.f K l0 l1 l2 = some r) :
  Calls Try.prog 4 #[.slice A0 l0.length c0, .slice A1 l1.length c1, .slice A2 l2.length c2] w0 (WcetMet.Post w0 r) := by
 have hS := St.start w0
 unfold WcetMet.f at h
 refine calls_enter (n := 64) (args := [.slice A0 l0.length c0, .slice A1 l1.length c1, .slice A2 l2.length c2]) (fn := Try.f4) rfl rfl rfl rfl ?_
 show WE _ _ _ _ [(0, .slice A0 l0.length c0), (1, .slice A1 l1.length c1), (2, .slice A2 l2.length c2)] _
 refine ws fun K1 hK1 => ?_
 refine wr [(0, 0)] ?_
 refine gb0 [0] [(6, .bool false)] ?_
 refine gn hK1 ?_
 refine ws fun K2 hK2 => ?_
 rcases hq3 : WcetMet.p0 K with _ | (_ | rr2)
 ·rw [hq3] at h; cases h
 ·rw [hq3] at h
  simp only [] at h
  refine we_keep (e' := [(0, .slice A0 l0.length c0), (1, .slice A1 l1.length c1), (2, .slice A2 l2.length c2), (6, .bool false)]) ea (WcetMet_p0 K w0 l0 A0 c0 l1 A1 c1 l2 A2 c2 hR0 hL0 hR1 hL1 hR2 hL2 _ hq3 _ hS _ ?_)
  rintro _ a w3 ⟨rfl, hS5, hF⟩
  replace hS5 : St w0 w3 [] := hS5
  refine hK2 [(0, .slice A0 l0.length c0), (1, .slice A1 l1.length c1), (2, .slice A2 l2.length c2)] w3 ?_ a hF
  refine ws fun K6 hK6 => ?_
  refine ws fun K7 hK7 => ?_
  refine wr [(0, 0), (1, 0), (2, 0)] ?_
  refine gb0 [0, 1, 2] [(21, .bool (decide ((l0.length : Int) > 3000))), (20, vI (l0.length : Int)), (19, .slice A0 l0.length c0)] ?_
  refine gn hK7 ?_
  by_cases hc3 : (l0.length : Int) > 3000
  ·rw [if_pos hc3] at h
   refine wk 21 (decide ((l0.length : Int) > 3000)) true (decide_eq_true hc3) ?_
   refine we_true (by kernel_rfl) ?_
   refine ws fun K8 hK8 => ?_
   refine wr [(0, 0)] ?_
   refine gb0 [0] [(6, .bool true)] ?_
   refine gn hK8 ?_
   obtain rfl := si h
   exact we_ret (pr0 [.tmp 6] [.bool true] ⟨rfl, hS5⟩)
  ·rw [if_neg hc3] at h
   refine wk 21 (decide ((l0.length : Int) > 3000)) false (decide_eq_false hc3) ?_
   refine we_false (by kernel_rfl) ?_
   refine we_skip fun a hF => hK6 _ _ ?_ a hF
   refine ws fun K9 hK9 => ?_
   refine ws fun K10 hK10 => ?_
   refine wr [(0, 0), (1, 0), (2, 0)] ?_
   refine gb0 [0, 1, 2] [(24, vI 0), (23, vI (l0.length : Int)), (22, .slice A0 l0.length c0)] ?_
   refine gn hK10 ?_
   refine we_block ?_
   rcases hq4 : iter (WcetMet.r1 l0) K 0 with _ | (_ | rr1)
   ·rw [hq4] at h; cases h
   ·rw [hq4] at h
    simp only [] at h
    refine we_iter (A := WcetMet.A1 w0 l0 A0 c0 l1 A1 c1 l2 A2 c2) (B := WcetMet.B1 w0 l0 A0 c0 l1 A1 c1 l2 A2 c2) hq4 (fun a hF => ⟨hS5, hF.weaken ea⟩) (fun s o hf a w hA Q hQ => WcetMet_r1 K w0 l0 A0 c0 l1 A1 c1 l2 A2 c2 hR0 hL0 hR1 hL1 hR2 hL2 hc3 s o hf a w hA Q hQ) ?_
    rintro _ a w6 _ ⟨rfl, hS12, hF⟩
    replace hS12 : St w0 w6 [] := hS12
    refine hK9 [(0, .slice A0 l0.length c0), (1, .slice A1 l1.length c1), (2, .slice A2 l2.length c2)] w6 ?_ a hF
    refine ws fun K18 hK18 => ?_
    refine wr [(0, 0), (1, 1), (2, 0), (3, 0), (4, 0), (5, 1), (6, 1), (7, 2), (8, 2)] ?_
    rcases hq5 : wcet_Analyse.f K l0 with _ | r3
    ·rw [hq5] at h; cases h
    rw [hq5] at h
    simp only [] at h
    refine gb0 [0] [(38, .slice A0 l0.length c0)] ?_
    refine ge_call (d := some 39) (f := 8) (args := #[.slice A0 l0.length c0]) (by kernel_rfl) (wcet_Analyse_ok K l0 A0 c0 _ (hS12.rd hR0) hL0 _ hq5) ?_
    rintro _ w7 ⟨v1, rfl, hS13⟩
    refine ⟨_, rfl, hS13.below, ?_⟩
    have hS14 := hS12.call hS13
    refine gb0 [2, 3, 4] [(41, .agg #[vI r3.2.Code, vI r3.2.At]), (40, .agg #[vI r3.1.Worst, v1]), (37, .tuple #[.agg #[vI r3.1.Worst, v1], .agg #[vI r3.2.Code, vI r3.2.At]])] ?_
    refine gw (some 9) (.cells #[vI 0, .slice none 0 0] 26) (fun b => pP b 0) hS14 fun b2 w8 hx3 hS15 => ?_
    refine gw (some 10) (.cells #[vI 0, vI 0] 29) (fun b => pP b 0) hS15 fun b3 w9 hx4 hS16 => ?_
    obtain ⟨Z1, cz1, rfl⟩ := hS16.open 2 rfl
    have hS17 := hS16.bring 1 rfl
    refine gs b2 0 #[vI 0, .slice none 0 0] 26 [vI r3.1.Worst, (.slice Z1 r3.1.Rest.length cz1)] hS17 fun w10 hS18 => ?_
    have hS19 : St w0 w10 [Own.blk b2 (.cells #[vI r3.1.Worst, (.slice Z1 r3.1.Rest.length cz1)] 26 (0, 0)), Own.blk b3 (.cells #[vI 0, vI 0] 29 (0, 0)), Own.of (.slice Z1 r3.1.Rest.length cz1) 3 r3.1.Rest] := hS18
    have hS20 := hS19.bring 1 rfl
    refine gs b3 0 #[vI 0, vI 0] 29 [vI r3.2.Code, vI r3.2.At] hS20 fun w11 hS21 => ?_
    have hS22 : St w0 w11 [Own.blk b3 (.cells #[vI r3.2.Code, vI r3.2.At] 29 (0, 0)), Own.blk b2 (.cells #[vI r3.1.Worst, (.slice Z1 r3.1.Rest.length cz1)] 26 (0, 0)), Own.of (.slice Z1 r3.1.Rest.length cz1) 3 r3.1.Rest] := hS21
    refine gn hK18 ?_
    refine ws fun K19 hK19 => ?_
    refine wr [(0, 0), (1, 0), (2, 0), (3, 1), (4, 0), (5, 0), (6, 0), (7, 1), (8, 1), (9, 2), (10, 2)] ?_
    rcases hq6 : mach_Run.f K l0 l1 l2 with _ | r4
    ·rw [hq6] at h; cases h
    rw [hq6] at h
    simp only [] at h
    refine gb0 [0, 1, 2] [(45, .slice A2 l2.length c2), (44, .slice A1 l1.length c1), (43, .slice A0 l0.length c0)] ?_
    refine ge_call (d := some 46) (f := 10) (args := #[.slice A0 l0.length c0, .slice A1 l1.length c1, .slice A2 l2.length c2]) (by kernel_rfl) (mach_Run_ok K l0 A0 c0 l1 A1 c1 l2 A2 c2 _ (hS22.rd hR0) hL0 (hS22.rd hR1) hL1 (hS22.rd hR2) hL2 _ hq6) ?_
    rintro _ w12 ⟨v2, v3, rfl, hS23⟩
    refine ⟨_, rfl, hS23.below, ?_⟩
    have hS24 := hS22.call hS23
    refine gb0 [4, 5, 6] [(48, .agg #[vI r4.2.Code, vI r4.2.At]), (47, .agg #[v2, v3, vI r4.1.Steps]), (42, .tuple #[.agg #[v2, v3, vI r4.1.Steps], .agg #[vI r4.2.Code, vI r4.2.At]])] ?_
    refine gw (some 11) (.cells #[.slice none 0 0, .slice none 0 0, vI 0] 36) (fun b => pP b 0) hS24 fun b4 w13 hx5 hS25 => ?_
    refine gw (some 12) (.cells #[vI 0, vI 0] 29) (fun b => pP b 0) hS25 fun b5 w14 hx6 hS26 => ?_
    obtain ⟨Z2, cz2, rfl⟩ := hS26.open 2 rfl
    obtain ⟨Z3, cz3, rfl⟩ := hS26.open 3 rfl
    have hS27 := hS26.bring 1 rfl
    refine gs b4 0 #[.slice none 0 0, .slice none 0 0, vI 0] 36 [(.slice Z2 r4.1.Vars.length cz2), (.slice Z3 r4.1.Puts.length cz3), vI r4.1.Steps] hS27 fun w15 hS28 => ?_
    have hS29 : St w0 w15 [Own.blk b4 (.cells #[(.slice Z2 r4.1.Vars.length cz2), (.slice Z3 r4.1.Puts.length cz3), vI r4.1.Steps] 36 (0, 0)), Own.blk b5 (.cells #[vI 0, vI 0] 29 (0, 0)), Own.of (.slice Z2 r4.1.Vars.length cz2) 3 r4.1.Vars, Own.of (.slice Z3 r4.1.Puts.length cz3) 56 r4.1.Puts, Own.blk b3 (.cells #[vI r3.2.Code, vI r3.2.At] 29 (0, 0)), Own.blk b2 (.cells #[vI r3.1.Worst, (.slice Z1 r3.1.Rest.length cz1)] 26 (0, 0)), Own.of (.slice Z1 r3.1.Rest.length cz1) 3 r3.1.Rest] := hS28
    have hS30 := hS29.bring 1 rfl
    refine gs b5 0 #[vI 0, vI 0] 29 [vI r4.2.Code, vI r4.2.At] hS30 fun w16 hS31 => ?_
    have hS32 : St w0 w16 [Own.blk b5 (.cells #[vI r4.2.Code, vI r4.2.At] 29 (0, 0)), Own.blk b4 (.cells #[(.slice Z2 r4.1.Vars.length cz2), (.slice Z3 r4.1.Puts.length cz3), vI r4.1.Steps] 36 (0, 0)), Own.of (.slice Z2 r4.1.Vars.length cz2) 3 r4.1.Vars, Own.of (.slice Z3 r4.1.Puts.length cz3) 56 r4.1.Puts, Own.blk b3 (.cells #[vI r3.2.Code, vI r3.2.At] 29 (0, 0)), Own.blk b2 (.cells #[vI r3.1.Worst, (.slice Z1 r3.1.Rest.length cz1)] 26 (0, 0)), Own.of (.slice Z1 r3.1.Rest.length cz1) 3 r3.1.Rest] := hS31
    refine gn hK19 ?_
    refine ws fun K20 hK20 => ?_
    refine wr [(0, 0), (1, 0), (2, 0), (3, 0), (4, 0), (5, 0), (6, 0), (7, 0), (8, 0), (9, 0), (10, 0), (11, 0), (12, 0), (13, 0), (14, 0), (15, 0)] ?_
    refine gb [0, 1, 2, 3] [(52, .bool (r3.2.Code != 0)), (51, .bool (r3.2.Code != 0)), (50, vI r3.2.Code), (49, pP b3 0)] [.loaded ⟨b3, 0, none⟩ (vI r3.2.Code)] ⟨hS32.c 4, trivial⟩ ?_
    by_cases hc7 : r3.2.Code = 0
    ·rw [if_pos hc7] at h
     refine gk 52 (r3.2.Code != 0) false (bne_eq_false_iff_eq.2 hc7) ?_
     refine gb [4, 5, 6, 7, 8] [(57, .bool (r4.2.Code != 0)), (56, .bool (r4.2.Code != 0)), (55, .bool (r4.2.Code != 0)), (54, vI r4.2.Code), (53, pP b5 0)] [.loaded ⟨b5, 0, none⟩ (vI r4.2.Code)] ⟨hS32.c 0, trivial⟩ ?_
     by_cases hc8 : r4.2.Code = 0
     ·rw [if_pos hc8] at h
      refine gk 57 (r4.2.Code != 0) false (bne_eq_false_iff_eq.2 hc8) ?_
      refine gb [9, 10, 11, 12, 13, 14, 15] [(6, .bool (r4.1.Steps == r3.1.Worst)), (63, .bool (r4.1.Steps == r3.1.Worst)), (62, .bool (r4.1.Steps == r3.1.Worst)), (61, vI r3.1.Worst), (60, pP b2 0), (59, vI r4.1.Steps), (58, pP b4 2)] [.loaded ⟨b4, 2, none⟩ (vI r4.1.Steps), .loaded ⟨b2, 0, none⟩ (vI r3.1.Worst)] ⟨hS32.c 1, hS32.c 5, trivial⟩ ?_
      refine gn hK20 ?_
      have hS33 := hS32.takeN 0
      obtain rfl := si h
      exact we_ret (pr0 [.tmp 6] [.bool (r4.1.Steps == r3.1.Worst)] ⟨rfl, hS33⟩)
     ·rw [if_neg hc8] at h
      refine gk 57 (r4.2.Code != 0) true (bne_iff_ne.2 hc8) ?_
      refine gb0 [9, 10, 11, 12, 13, 14, 15] [(6, .bool true), (63, .bool true), (62, undef), (61, undef), (60, undef), (59, undef), (58, undef)] ?_
      refine gn hK20 ?_
      have hS34 := hS32.takeN 0
      obtain rfl := si h
      exact we_ret (pr0 [.tmp 6] [.bool true] ⟨rfl, hS34⟩)
    ·rw [if_neg hc7] at h
     refine gk 52 (r3.2.Code != 0) true (bne_iff_ne.2 hc7) ?_
     refine gb0 [4, 5, 6, 7, 8, 9, 10, 11, 12, 13, 14, 15] [(6, .bool true), (63, .bool true), (62, undef), (61, undef), (60, undef), (59, undef), (58, undef), (57, .bool true), (56, .bool true), (55, undef), (54, undef), (53, undef)] ?_
     refine gn hK20 ?_
     have hS35 := hS32.takeN 0
     obtain rfl := si h
     exact we_ret (pr0 [.tmp 6] [.bool true] ⟨rfl, hS35⟩)
   ·rw [hq4] at h
    simp only [] at h
    refine we_iter (A := WcetMet.A1 w0 l0 A0 c0 l1 A1 c1 l2 A2 c2) (B := WcetMet.B1 w0 l0 A0 c0 l1 A1 c1 l2 A2 c2) hq4 (fun a hF => ⟨hS5, hF.weaken ea⟩) (fun s o hf a w hA Q hQ => WcetMet_r1 K w0 l0 A0 c0 l1 A1 c1 l2 A2 c2 hR0 hL0 hR1 hL1 hR2 hL2 hc3 s o hf a w hA Q hQ) ?_
    rintro _ a w1 _ ⟨rfl, hb⟩
    obtain rfl := si h
    exact hb
 ·rw [hq3] at h
  simp only [] at h
  refine we_keep (e' := [(0, .slice A0 l0.length c0), (1, .slice A1 l1.length c1), (2, .slice A2 l2.length c2), (6, .bool false)]) ea (WcetMet_p0 K w0 l0 A0 c0 l1 A1 c1 l2 A2 c2 hR0 hL0 hR1 hL1 hR2 hL2 _ hq3 _ hS _ ?_)
  rintro _ a w1 ⟨_, rfl, hb⟩
  obtain rfl := si h
  exact hb
end Go.Proofs.Ytgpolejhaglddaa.GV
