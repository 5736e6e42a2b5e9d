/- Walks of single functions, written by a program of this work. -/
import Derived.Test.YtnckikjcjgmdlaaGWWcetLeast2
namespace Go.Proofs.Ytnckikjcjgmdlaa.GV
open Go Go.RowKit
set_option linter.unusedVariables false
set_option linter.unusedSimpArgs false
set_option maxRecDepth 100000

/-! punctual/mach.Look -/
abbrev mach_Look.Post (w0 : World) (r : SShape × SFault) (e : Ending) (w : World) : Prop := ∃ (v0 : Value) (mv1 : Option Nat), e = .returned (.tuple #[.agg #[v0, .map mv1], .agg #[.int .i64 r.2.Code, .int .i64 r.2.At]]) ∧ St w0 w [Own.of v0 3 r.1.In, Own.mapv (κ := Int) (ν := Int) mv1 r.1.Close]
def mach_Look.r0 (l0 : List SIns) : Nat → Option (Nat ⊕ (Unit ⊕ (SShape × SFault)))
  | i1 =>
    if (i1 : Int) < (l0.length : Int) then
      match l0[i1]? with
      | none => none
      | some e1 =>
        if e1.Op < 1 then
          some (.inr (.inr (((mach_Look_1.f 6 (i1 : Int)).1), ((mach_Look_1.f 6 (i1 : Int)).2))))
        else
          if e1.Op > 18 then
            some (.inr (.inr (((mach_Look_1.f 6 (i1 : Int)).1), ((mach_Look_1.f 6 (i1 : Int)).2))))
          else
            match mach_operand.f e1.Op with
            | none => none
            | some r1 =>
              if (mach_fits.f e1.A r1.1) = true then
                if (mach_fits.f e1.B r1.2) = true then
                  if e1.Op = 18 then
                    if e1.A = 0 then
                      some (.inr (.inr (((mach_Look_1.f 3 (i1 : Int)).1), ((mach_Look_1.f 3 (i1 : Int)).2))))
                    else
                      some (.inl (i1 + 1))
                  else
                    some (.inl (i1 + 1))
                else
                  some (.inr (.inr (((mach_Look_1.f 3 (i1 : Int)).1), ((mach_Look_1.f 3 (i1 : Int)).2))))
              else
                some (.inr (.inr (((mach_Look_1.f 3 (i1 : Int)).1), ((mach_Look_1.f 3 (i1 : Int)).2))))
    else
      some (.inr (.inl ()))
def mach_Look.r1 (K : Nat) (l0 : List SIns) : Nat × (List Int) × (List Int) × (List (Int × Int)) → Option ((Nat × (List Int) × (List Int) × (List (Int × Int))) ⊕ (((List Int) × (List Int) × (List (Int × Int))) ⊕ (SShape × SFault)))
  | (i2, m7, m8, mp1) =>
    if (i2 : Int) < (l0.length : Int) then
      match mach_looker_region.f K l0 m7 m8 mp1 (i2 : Int) with
      | none => none
      | some r2 =>
        if r2.1 = 0 then
          some (.inl ((i2 + 1), r2.2.1, r2.2.2.1, r2.2.2.2))
        else
          some (.inr (.inr (((mach_Look_1.f r2.1 (i2 : Int)).1), ((mach_Look_1.f r2.1 (i2 : Int)).2))))
    else
      some (.inr (.inl (m7, m8, mp1)))
def mach_Look.r2 (l0 : List SIns) (m13 : List Int) : Nat → Option (Nat ⊕ (Unit ⊕ (SShape × SFault)))
  | i3 =>
    if (i3 : Int) < (l0.length : Int) then
      match l0[i3]? with
      | none => none
      | some e4 =>
        if e4.Op = 11 then
          if e4.A < (l0.length : Int) then
            if 0 ≤ e4.A then
              match m13[(e4.A).toNat]? with
              | none => none
              | some e5 =>
                if e4.A ≤ (i3 : Int) then
                  some (.inr (.inr (((mach_Look_1.f 7 (i3 : Int)).1), ((mach_Look_1.f 7 (i3 : Int)).2))))
                else
                  if e4.A > (l0.length : Int) then
                    some (.inr (.inr (((mach_Look_1.f 7 (i3 : Int)).1), ((mach_Look_1.f 7 (i3 : Int)).2))))
                  else
                    match m13[i3]? with
                    | none => none
                    | some e6 =>
                      if e5 = e6 then
                        some (.inl (i3 + 1))
                      else
                        some (.inr (.inr (((mach_Look_1.f 7 (i3 : Int)).1), ((mach_Look_1.f 7 (i3 : Int)).2))))
            else
              none
          else
            if e4.A ≤ (i3 : Int) then
              some (.inr (.inr (((mach_Look_1.f 7 (i3 : Int)).1), ((mach_Look_1.f 7 (i3 : Int)).2))))
            else
              if e4.A > (l0.length : Int) then
                some (.inr (.inr (((mach_Look_1.f 7 (i3 : Int)).1), ((mach_Look_1.f 7 (i3 : Int)).2))))
              else
                match m13[i3]? with
                | none => none
                | some e7 =>
                  if (-1) = e7 then
                    some (.inl (i3 + 1))
                  else
                    some (.inr (.inr (((mach_Look_1.f 7 (i3 : Int)).1), ((mach_Look_1.f 7 (i3 : Int)).2))))
        else
          if e4.Op = 12 then
            if e4.A < (l0.length : Int) then
              if 0 ≤ e4.A then
                match m13[(e4.A).toNat]? with
                | none => none
                | some e8 =>
                  if e4.A ≤ (i3 : Int) then
                    some (.inr (.inr (((mach_Look_1.f 7 (i3 : Int)).1), ((mach_Look_1.f 7 (i3 : Int)).2))))
                  else
                    if e4.A > (l0.length : Int) then
                      some (.inr (.inr (((mach_Look_1.f 7 (i3 : Int)).1), ((mach_Look_1.f 7 (i3 : Int)).2))))
                    else
                      match m13[i3]? with
                      | none => none
                      | some e9 =>
                        if e8 = e9 then
                          some (.inl (i3 + 1))
                        else
                          some (.inr (.inr (((mach_Look_1.f 7 (i3 : Int)).1), ((mach_Look_1.f 7 (i3 : Int)).2))))
              else
                none
            else
              if e4.A ≤ (i3 : Int) then
                some (.inr (.inr (((mach_Look_1.f 7 (i3 : Int)).1), ((mach_Look_1.f 7 (i3 : Int)).2))))
              else
                if e4.A > (l0.length : Int) then
                  some (.inr (.inr (((mach_Look_1.f 7 (i3 : Int)).1), ((mach_Look_1.f 7 (i3 : Int)).2))))
                else
                  match m13[i3]? with
                  | none => none
                  | some e10 =>
                    if (-1) = e10 then
                      some (.inl (i3 + 1))
                    else
                      some (.inr (.inr (((mach_Look_1.f 7 (i3 : Int)).1), ((mach_Look_1.f 7 (i3 : Int)).2))))
          else
            some (.inl (i3 + 1))
    else
      some (.inr (.inl ()))
def mach_Look.f (K : Nat) (l0 : List SIns) : Option (SShape × SFault) :=
  if (l0.length : Int) > 2000 then
    some (((mach_Look_1.f 2 0).1), ((mach_Look_1.f 2 0).2))
  else
    match iter (mach_Look.r0 l0) K 0 with
    | none => none
    | some (.inl _) =>
      if l0.length ≤ 17592186044416 then
        match iter (mach_Look.r1 K l0) K (0, ([] : List Int), (List.replicate l0.length (0 : Int)), ([] : List (Int × Int))) with
        | none => none
        | some (.inl (m12, m13, mp3)) =>
          if (m12.length : Int) > 0 then
            match m12[0]? with
            | none => none
            | some e2 =>
              if 0 ≤ e2 then
                match l0[(e2).toNat]? with
                | none => none
                | some e3 =>
                  if e3.Op = 13 then
                    some (((mach_Look_1.f 9 e2).1), ((mach_Look_1.f 9 e2).2))
                  else
                    some (((mach_Look_1.f 10 e2).1), ((mach_Look_1.f 10 e2).2))
              else
                none
          else
            match iter (mach_Look.r2 l0 m13) K 0 with
            | none => none
            | some (.inl _) =>
              match mach_heights.f K l0 with
              | none => none
              | some r3 =>
                if r3.Code = 0 then
                  some ((⟨m13, mp3⟩ : SShape), (⟨0, 0⟩ : SFault))
                else
                  some ((⟨([] : List Int), ([] : List (Int × Int))⟩ : SShape), r3)
            | some (.inr rr1) =>
              some rr1
        | some (.inr rr2) =>
          some rr2
      else
        none
    | some (.inr rr3) =>
      some rr3
abbrev mach_Look.A0 (K : Nat) (w0 : World) (l0 : List SIns) (A0 : Option Addr) (c0 : Nat) (hR0 : RdL w0 A0 l0) (hL0 : l0.length ≤ c0) (b1 : Nat) (b2 : Nat) (hc1 : ¬ ((l0.length : Int) > 2000)) : Nat → Act → World → Prop := fun (s : Nat) a w => St w0 w [Own.blk b2 (.cells #[.int .i64 0, .int .i64 0] 40 (0, 0)), Own.blk b1 (.cells #[.slice none 0 0, .map none] 115 (0, 0))] ∧ Frm 209 a [(0, .slice A0 l0.length c0), (2, .pointer (some ⟨b1, 0, none⟩)), (3, .pointer (some ⟨b2, 0, none⟩)), (4, .func (.func 82) #[] #[]), (23, .slice A0 l0.length c0), (24, .int .i64 (l0.length : Int)), (25, .int .i64 (s : Int))]
abbrev mach_Look.B0 (K : Nat) (w0 : World) (l0 : List SIns) (A0 : Option Addr) (c0 : Nat) (hR0 : RdL w0 A0 l0) (hL0 : l0.length ≤ c0) (b1 : Nat) (b2 : Nat) (hc1 : ¬ ((l0.length : Int) > 2000)) : (Unit ⊕ (SShape × SFault)) → Exit → Act → World → Prop := Exits 0 (fun (s : Unit) a w => St w0 w [Own.blk b2 (.cells #[.int .i64 0, .int .i64 0] 40 (0, 0)), Own.blk b1 (.cells #[.slice none 0 0, .map none] 115 (0, 0))] ∧ Frm 209 a [(0, .slice A0 l0.length c0), (2, .pointer (some ⟨b1, 0, none⟩)), (3, .pointer (some ⟨b2, 0, none⟩)), (4, .func (.func 82) #[] #[])]) (Rets Try.prog Try.f62 (mach_Look.Post w0))
theorem mach_Look_r0 (K : Nat) (w0 : World) (l0 : List SIns) (A0 : Option Addr) (c0 : Nat) (hR0 : RdL w0 A0 l0) (hL0 : l0.length ≤ c0) (b1 : Nat) (b2 : Nat) (hc1 : ¬ ((l0.length : Int) > 2000)) (s : Nat) (o : Nat ⊕ (Unit ⊕ (SShape × SFault))) (h : mach_Look.r0 l0 s = some o) (a : Act) (w : World) (hA : mach_Look.A0 K w0 l0 A0 c0 hR0 hL0 b1 b2 hc1 s a w) (Q : Exit → Act → World → Prop) (hQ : ∀ x a w, Outs (mach_Look.A0 K w0 l0 A0 c0 hR0 hL0 b1 b2 hc1) (mach_Look.B0 K w0 l0 A0 c0 hR0 hL0 b1 b2 hc1) o x a w → Q x a w) : (subF Try.f62 [1, 1, 1, 0, 1, 0, 0]).wp Try.prog Q a w := by
  obtain ⟨i1, hs⟩ : ∃ z, z = s := ⟨s, rfl⟩
  subst hs
  obtain ⟨hS, hF⟩ := hA
  replace hS : St w0 w [Own.blk b2 (.cells #[.int .i64 0, .int .i64 0] 40 (0, 0)), Own.blk b1 (.cells #[.slice none 0 0, .map none] 115 (0, 0))] := hS
  simp only [mach_Look.r0] at h
  refine (?_ : WE Try.prog 209 (subF Try.f62 [1, 1, 1, 0, 1, 0, 0]) Q [(0, .slice A0 l0.length c0), (2, .pointer (some ⟨b1, 0, none⟩)), (3, .pointer (some ⟨b2, 0, none⟩)), (4, .func (.func 82) #[] #[]), (23, .slice A0 l0.length c0), (24, .int .i64 (l0.length : Int)), (25, .int .i64 (i1 : Int))] w) a hF
  clear hF a
  refine we_seq fun K8 hK8 => ?_
  refine we_region [(0, 0)] rfl ?_
  refine ge_batch [0] (ans := []) (vs := [(26, .bool (decide ((i1 : Int) < (l0.length : Int))))]) (l := []) (by kernel_rfl) trivial ?_
  refine ge_nil fun a hF => hK8 _ _ ?_ a hF
  refine we_seq fun K9 hK9 => ?_
  by_cases hc2 : (i1 : Int) < (l0.length : Int)
  · rw [if_pos hc2] at h
    refine we_known (t := 26) (b := decide ((i1 : Int) < (l0.length : Int))) (v := true) (by kernel_rfl) (decide_eq_true hc2) ?_
    refine we_true (by kernel_rfl) ?_
    refine we_skip fun a hF => hK9 _ _ ?_ a hF
    refine we_seq fun K10 hK10 => ?_
    refine we_block ?_
    refine we_seq fun K11 hK11 => ?_
    refine we_region [(0, 0), (1, 0), (2, 0), (3, 1), (4, 0), (5, 2)] rfl ?_
    refine ge_batch [0] (ans := []) (vs := [(27, .int .i64 (i1 : Int))]) (l := []) (by kernel_rfl) trivial ?_
    rcases hx3 : l0[i1]? with _ | e1
    · rw [hx3] at h; cases h
    rw [hx3] at h
    simp only [] at h
    refine ge_index (d := 28) (ty := 0) (t := 68) (el := 29) (sz := 3) (m := l0.length) (c := c0) (x := (.tmp 23)) (y := (.tmp 25)) (A := A0) (k' := .i64) (j := (i1 : Int)) (jn := i1) (b0 := blkOf A0) (o0 := offOf A0) (by kernel_rfl) (by kernel_rfl) (by kernel_rfl) (by kernel_rfl) (by kernel_rfl) ((hS.rd hR0).eqSome (pos_of_get hx3)) rfl (lt_of_get hx3) ?_
    refine ge_batch [2] (ans := [.val (.int .i64 e1.Op), .val (.int .i64 e1.A), .val (.int .i64 e1.B)]) (vs := [(29, .agg #[.int .i64 e1.Op, .int .i64 e1.A, .int .i64 e1.B])]) (l := [.loaded ⟨blkOf A0, offOf A0 + i1 * 3, none⟩ (.int .i64 e1.Op), .loaded ⟨blkOf A0, offOf A0 + i1 * 3 + 1, none⟩ (.int .i64 e1.A), .loaded ⟨blkOf A0, offOf A0 + i1 * 3 + 2, none⟩ (.int .i64 e1.B)]) (by kernel_rfl) ⟨RdL.cell (j := 0) (hS.rd hR0) hx3 rfl, RdL.cell (j := 1) (hS.rd hR0) hx3 rfl, RdL.cell (j := 2) (hS.rd hR0) hx3 rfl, trivial⟩ ?_
    refine ge_new (d := some 6) (o := .cells #[.int .i64 0, .int .i64 0, .int .i64 0] 29) (v := fun b => .pointer (some ⟨b, 0, none⟩)) hS (fun b => by kernel_rfl) fun b3 w6 hx4 hS16 => ?_
    refine ge_batch [4] (ans := []) (vs := [(5, .int .i64 (i1 : Int))]) (l := []) (by kernel_rfl) trivial ?_
    refine ge_set (b := b3) (j := 0) (cs := #[.int .i64 0, .int .i64 0, .int .i64 0]) (t := 29) (vs := [.int .i64 e1.Op, .int .i64 e1.A, .int .i64 e1.B]) hS16 (by kernel_rfl) rfl rfl fun w7 hS17 => ?_
    have hS18 : St w0 w7 [Own.blk b3 (.cells #[.int .i64 e1.Op, .int .i64 e1.A, .int .i64 e1.B] 29 (0, 0)), Own.blk b2 (.cells #[.int .i64 0, .int .i64 0] 40 (0, 0)), Own.blk b1 (.cells #[.slice none 0 0, .map none] 115 (0, 0))] := hS17
    refine ge_nil fun a hF => hK11 _ _ ?_ a hF
    refine we_seq fun K12 hK12 => ?_
    refine we_seq fun K13 hK13 => ?_
    refine we_region [(0, 0), (1, 0), (2, 0), (3, 0), (4, 0), (5, 0), (6, 0), (7, 0)] rfl ?_
    refine ge_batch [0, 1, 2, 3] (ans := [.val (.int .i64 e1.Op)]) (vs := [(33, .bool (decide (e1.Op < 1))), (32, .bool (decide (e1.Op < 1))), (31, .int .i64 e1.Op), (30, .pointer (some ⟨b3, 0, none⟩))]) (l := [.loaded ⟨b3, 0, none⟩ (.int .i64 e1.Op)]) (by kernel_rfl) ⟨hS18.cell 0 rfl rfl, trivial⟩ ?_
    by_cases hc3 : e1.Op < 1
    · rw [if_pos hc3] at h
      refine ge_known (t := 33) (b := decide (e1.Op < 1)) (c := true) (by kernel_rfl) (decide_eq_true hc3) ?_
      refine ge_batch [4, 5, 6, 7] (ans := []) (vs := [(37, .bool true), (36, undef), (35, undef), (34, undef)]) (l := []) (by kernel_rfl) trivial ?_
      refine ge_nil fun a hF => hK13 _ _ ?_ a hF
      refine we_true (by kernel_rfl) ?_
      refine we_seq fun K14 hK14 => ?_
      refine we_region [(0, 0), (1, 0), (2, 1), (3, 0), (4, 0), (5, 2), (6, 2)] rfl ?_
      refine ge_batch [0, 1] (ans := []) (vs := [(39, .int .i64 (i1 : Int)), (38, .func (.func 82) #[] #[])]) (l := []) (by kernel_rfl) trivial ?_
      refine ge_call (d := some 40) (f := 82) (args := #[.int .i64 6, .int .i64 (i1 : Int)]) (by kernel_rfl) (mach_Look_1_ok 6 (i1 : Int) _ _ rfl) ?_
      rintro _ w8 ⟨v2, m2, rfl, hS19⟩
      refine ⟨_, rfl, hS19.below, ?_⟩
      have hS20 := hS18.call hS19
      refine ge_batch [3, 4] (ans := []) (vs := [(42, .agg #[.int .i64 (((mach_Look_1.f 6 (i1 : Int)).2).Code), .int .i64 (((mach_Look_1.f 6 (i1 : Int)).2).At)]), (41, .agg #[v2, .map m2])]) (l := []) (by kernel_rfl) trivial ?_
      obtain ⟨Z2, cz2, rfl⟩ := hS20.open 0 rfl
      have hS21 := hS20.bring 4 rfl
      refine ge_set (b := b1) (j := 0) (cs := #[.slice none 0 0, .map none]) (t := 115) (vs := [(.slice Z2 (((mach_Look_1.f 6 (i1 : Int)).1).In).length cz2), .map m2]) hS21 (by kernel_rfl) rfl rfl fun w9 hS22 => ?_
      have hS23 : St w0 w9 [Own.blk b1 (.cells #[(.slice Z2 (((mach_Look_1.f 6 (i1 : Int)).1).In).length cz2), .map m2] 115 (0, 0)), Own.of (.slice Z2 (((mach_Look_1.f 6 (i1 : Int)).1).In).length cz2) 3 (((mach_Look_1.f 6 (i1 : Int)).1).In), Own.mapv (κ := Int) (ν := Int) m2 (((mach_Look_1.f 6 (i1 : Int)).1).Close), Own.blk b3 (.cells #[.int .i64 e1.Op, .int .i64 e1.A, .int .i64 e1.B] 29 (0, 0)), Own.blk b2 (.cells #[.int .i64 0, .int .i64 0] 40 (0, 0))] := hS22
      have hS24 := hS23.bring 4 rfl
      refine ge_set (b := b2) (j := 0) (cs := #[.int .i64 0, .int .i64 0]) (t := 40) (vs := [.int .i64 (((mach_Look_1.f 6 (i1 : Int)).2).Code), .int .i64 (((mach_Look_1.f 6 (i1 : Int)).2).At)]) hS24 (by kernel_rfl) rfl rfl fun w10 hS25 => ?_
      have hS26 : St w0 w10 [Own.blk b2 (.cells #[.int .i64 (((mach_Look_1.f 6 (i1 : Int)).2).Code), .int .i64 (((mach_Look_1.f 6 (i1 : Int)).2).At)] 40 (0, 0)), Own.blk b1 (.cells #[(.slice Z2 (((mach_Look_1.f 6 (i1 : Int)).1).In).length cz2), .map m2] 115 (0, 0)), Own.of (.slice Z2 (((mach_Look_1.f 6 (i1 : Int)).1).In).length cz2) 3 (((mach_Look_1.f 6 (i1 : Int)).1).In), Own.mapv (κ := Int) (ν := Int) m2 (((mach_Look_1.f 6 (i1 : Int)).1).Close), Own.blk b3 (.cells #[.int .i64 e1.Op, .int .i64 e1.A, .int .i64 e1.B] 29 (0, 0))] := hS25
      refine ge_nil fun a hF => hK14 _ _ ?_ a hF
      have hS27 := hS26.bring 3 rfl
      have hS28 := hS27.bring 3 rfl
      have hS29 := hS28.takeN 2
      obtain rfl := Option.some.inj h
      exact we_ret fun a hF => hQ _ _ _ (Outs.out nofun (Exits.on ⟨rfl, (post_ret (rs := [.cell 2 115, .cell 3 40]) (ans := [.val ((.slice Z2 (((mach_Look_1.f 6 (i1 : Int)).1).In).length cz2)), .val (.map m2), .val (.int .i64 (((mach_Look_1.f 6 (i1 : Int)).2).Code)), .val (.int .i64 (((mach_Look_1.f 6 (i1 : Int)).2).At))]) (vs := [.agg #[(.slice Z2 (((mach_Look_1.f 6 (i1 : Int)).1).In).length cz2), .map m2], .agg #[.int .i64 (((mach_Look_1.f 6 (i1 : Int)).2).Code), .int .i64 (((mach_Look_1.f 6 (i1 : Int)).2).At)]]) (l := [.loaded ⟨b1, 0, none⟩ ((.slice Z2 (((mach_Look_1.f 6 (i1 : Int)).1).In).length cz2)), .loaded ⟨b1, 1, none⟩ (.map m2), .loaded ⟨b2, 0, none⟩ (.int .i64 (((mach_Look_1.f 6 (i1 : Int)).2).Code)), .loaded ⟨b2, 1, none⟩ (.int .i64 (((mach_Look_1.f 6 (i1 : Int)).2).At))]) rfl (by kernel_rfl) ⟨hS26.cell 1 rfl rfl, hS26.cell 1 rfl rfl, hS26.cell 0 rfl rfl, hS26.cell 0 rfl rfl, trivial⟩ ⟨(.slice Z2 (((mach_Look_1.f 6 (i1 : Int)).1).In).length cz2), m2, rfl, hS29⟩) a hF⟩))
    · rw [if_neg hc3] at h
      refine ge_known (t := 33) (b := decide (e1.Op < 1)) (c := false) (by kernel_rfl) (decide_eq_false hc3) ?_
      refine ge_batch [4, 5, 6, 7] (ans := [.val (.int .i64 e1.Op)]) (vs := [(37, .bool (decide (e1.Op > 18))), (36, .bool (decide (e1.Op > 18))), (35, .int .i64 e1.Op), (34, .pointer (some ⟨b3, 0, none⟩))]) (l := [.loaded ⟨b3, 0, none⟩ (.int .i64 e1.Op)]) (by kernel_rfl) ⟨hS18.cell 0 rfl rfl, trivial⟩ ?_
      refine ge_nil fun a hF => hK13 _ _ ?_ a hF
      by_cases hc4 : e1.Op > 18
      · rw [if_pos hc4] at h
        refine we_known (t := 37) (b := decide (e1.Op > 18)) (v := true) (by kernel_rfl) (decide_eq_true hc4) ?_
        refine we_true (by kernel_rfl) ?_
        refine we_seq fun K15 hK15 => ?_
        refine we_region [(0, 0), (1, 0), (2, 1), (3, 0), (4, 0), (5, 2), (6, 2)] rfl ?_
        refine ge_batch [0, 1] (ans := []) (vs := [(39, .int .i64 (i1 : Int)), (38, .func (.func 82) #[] #[])]) (l := []) (by kernel_rfl) trivial ?_
        refine ge_call (d := some 40) (f := 82) (args := #[.int .i64 6, .int .i64 (i1 : Int)]) (by kernel_rfl) (mach_Look_1_ok 6 (i1 : Int) _ _ rfl) ?_
        rintro _ w11 ⟨v3, m3, rfl, hS30⟩
        refine ⟨_, rfl, hS30.below, ?_⟩
        have hS31 := hS18.call hS30
        refine ge_batch [3, 4] (ans := []) (vs := [(42, .agg #[.int .i64 (((mach_Look_1.f 6 (i1 : Int)).2).Code), .int .i64 (((mach_Look_1.f 6 (i1 : Int)).2).At)]), (41, .agg #[v3, .map m3])]) (l := []) (by kernel_rfl) trivial ?_
        obtain ⟨Z3, cz3, rfl⟩ := hS31.open 0 rfl
        have hS32 := hS31.bring 4 rfl
        refine ge_set (b := b1) (j := 0) (cs := #[.slice none 0 0, .map none]) (t := 115) (vs := [(.slice Z3 (((mach_Look_1.f 6 (i1 : Int)).1).In).length cz3), .map m3]) hS32 (by kernel_rfl) rfl rfl fun w12 hS33 => ?_
        have hS34 : St w0 w12 [Own.blk b1 (.cells #[(.slice Z3 (((mach_Look_1.f 6 (i1 : Int)).1).In).length cz3), .map m3] 115 (0, 0)), Own.of (.slice Z3 (((mach_Look_1.f 6 (i1 : Int)).1).In).length cz3) 3 (((mach_Look_1.f 6 (i1 : Int)).1).In), Own.mapv (κ := Int) (ν := Int) m3 (((mach_Look_1.f 6 (i1 : Int)).1).Close), Own.blk b3 (.cells #[.int .i64 e1.Op, .int .i64 e1.A, .int .i64 e1.B] 29 (0, 0)), Own.blk b2 (.cells #[.int .i64 0, .int .i64 0] 40 (0, 0))] := hS33
        have hS35 := hS34.bring 4 rfl
        refine ge_set (b := b2) (j := 0) (cs := #[.int .i64 0, .int .i64 0]) (t := 40) (vs := [.int .i64 (((mach_Look_1.f 6 (i1 : Int)).2).Code), .int .i64 (((mach_Look_1.f 6 (i1 : Int)).2).At)]) hS35 (by kernel_rfl) rfl rfl fun w13 hS36 => ?_
        have hS37 : St w0 w13 [Own.blk b2 (.cells #[.int .i64 (((mach_Look_1.f 6 (i1 : Int)).2).Code), .int .i64 (((mach_Look_1.f 6 (i1 : Int)).2).At)] 40 (0, 0)), Own.blk b1 (.cells #[(.slice Z3 (((mach_Look_1.f 6 (i1 : Int)).1).In).length cz3), .map m3] 115 (0, 0)), Own.of (.slice Z3 (((mach_Look_1.f 6 (i1 : Int)).1).In).length cz3) 3 (((mach_Look_1.f 6 (i1 : Int)).1).In), Own.mapv (κ := Int) (ν := Int) m3 (((mach_Look_1.f 6 (i1 : Int)).1).Close), Own.blk b3 (.cells #[.int .i64 e1.Op, .int .i64 e1.A, .int .i64 e1.B] 29 (0, 0))] := hS36
        refine ge_nil fun a hF => hK15 _ _ ?_ a hF
        have hS38 := hS37.bring 3 rfl
        have hS39 := hS38.bring 3 rfl
        have hS40 := hS39.takeN 2
        obtain rfl := Option.some.inj h
        exact we_ret fun a hF => hQ _ _ _ (Outs.out nofun (Exits.on ⟨rfl, (post_ret (rs := [.cell 2 115, .cell 3 40]) (ans := [.val ((.slice Z3 (((mach_Look_1.f 6 (i1 : Int)).1).In).length cz3)), .val (.map m3), .val (.int .i64 (((mach_Look_1.f 6 (i1 : Int)).2).Code)), .val (.int .i64 (((mach_Look_1.f 6 (i1 : Int)).2).At))]) (vs := [.agg #[(.slice Z3 (((mach_Look_1.f 6 (i1 : Int)).1).In).length cz3), .map m3], .agg #[.int .i64 (((mach_Look_1.f 6 (i1 : Int)).2).Code), .int .i64 (((mach_Look_1.f 6 (i1 : Int)).2).At)]]) (l := [.loaded ⟨b1, 0, none⟩ ((.slice Z3 (((mach_Look_1.f 6 (i1 : Int)).1).In).length cz3)), .loaded ⟨b1, 1, none⟩ (.map m3), .loaded ⟨b2, 0, none⟩ (.int .i64 (((mach_Look_1.f 6 (i1 : Int)).2).Code)), .loaded ⟨b2, 1, none⟩ (.int .i64 (((mach_Look_1.f 6 (i1 : Int)).2).At))]) rfl (by kernel_rfl) ⟨hS37.cell 1 rfl rfl, hS37.cell 1 rfl rfl, hS37.cell 0 rfl rfl, hS37.cell 0 rfl rfl, trivial⟩ ⟨(.slice Z3 (((mach_Look_1.f 6 (i1 : Int)).1).In).length cz3), m3, rfl, hS40⟩) a hF⟩))
      · rw [if_neg hc4] at h
        refine we_known (t := 37) (b := decide (e1.Op > 18)) (v := false) (by kernel_rfl) (decide_eq_false hc4) ?_
        refine we_false (by kernel_rfl) ?_
        refine we_skip fun a hF => hK12 _ _ ?_ a hF
        refine we_seq fun K16 hK16 => ?_
        refine we_region [(0, 0), (1, 0), (2, 1), (3, 0), (4, 0), (5, 0), (6, 0), (7, 0)] rfl ?_
        rcases hq4 : mach_operand.f e1.Op with _ | r1
        · rw [hq4] at h; cases h
        rw [hq4] at h
        simp only [] at h
        refine ge_batch [0, 1] (ans := [.val (.int .i64 e1.Op)]) (vs := [(45, .int .i64 e1.Op), (44, .pointer (some ⟨b3, 0, none⟩))]) (l := [.loaded ⟨b3, 0, none⟩ (.int .i64 e1.Op)]) (by kernel_rfl) ⟨hS18.cell 0 rfl rfl, trivial⟩ ?_
        refine ge_call (d := some 46) (f := 83) (args := #[.int .i64 e1.Op]) (by kernel_rfl) (mach_operand_ok e1.Op _ _ hq4) ?_
        rintro _ w14 ⟨rfl, hS41⟩
        refine ⟨_, rfl, hS41.below, ?_⟩
        have hS42 := hS18.call hS41
        refine ge_batch [3, 4, 5, 6, 7] (ans := []) (vs := [(8, .int .i64 r1.2), (7, .int .i64 r1.1), (48, .int .i64 r1.2), (47, .int .i64 r1.1), (43, .tuple #[.int .i64 r1.1, .int .i64 r1.2])]) (l := []) (by kernel_rfl) trivial ?_
        refine ge_nil fun a hF => hK16 _ _ ?_ a hF
        refine we_seq fun K17 hK17 => ?_
        refine we_region [(0, 0), (1, 0), (2, 0), (3, 1), (4, 0), (5, 0), (6, 0), (7, 0), (8, 0), (9, 1), (10, 0), (11, 0), (12, 0), (13, 0), (14, 0), (15, 0), (16, 0), (17, 0), (18, 0), (19, 0), (20, 0), (21, 0)] rfl ?_
        refine ge_batch [0, 1, 2] (ans := [.val (.int .i64 e1.A)]) (vs := [(51, .int .i64 r1.1), (50, .int .i64 e1.A), (49, .pointer (some ⟨b3, 1, none⟩))]) (l := [.loaded ⟨b3, 1, none⟩ (.int .i64 e1.A)]) (by kernel_rfl) ⟨hS42.cell 0 rfl rfl, trivial⟩ ?_
        refine ge_call (d := some 52) (f := 84) (args := #[.int .i64 e1.A, .int .i64 r1.1]) (by kernel_rfl) (mach_fits_ok e1.A r1.1 _ _ rfl) ?_
        rintro _ w15 ⟨rfl, hS43⟩
        refine ⟨_, rfl, hS43.below, ?_⟩
        have hS44 := hS42.call hS43
        refine ge_batch [4, 5] (ans := []) (vs := [(54, .bool (!(mach_fits.f e1.A r1.1))), (53, .bool (!(mach_fits.f e1.A r1.1)))]) (l := []) (by kernel_rfl) trivial ?_
        by_cases hc5 : (mach_fits.f e1.A r1.1) = true
        · rw [if_pos hc5] at h
          refine ge_known (t := 54) (b := !(mach_fits.f e1.A r1.1)) (c := false) (by kernel_rfl) (congrArg (fun z => !z) hc5) ?_
          refine ge_batch [6, 7, 8] (ans := [.val (.int .i64 e1.B)]) (vs := [(57, .int .i64 r1.2), (56, .int .i64 e1.B), (55, .pointer (some ⟨b3, 2, none⟩))]) (l := [.loaded ⟨b3, 2, none⟩ (.int .i64 e1.B)]) (by kernel_rfl) ⟨hS44.cell 0 rfl rfl, trivial⟩ ?_
          refine ge_call (d := some 58) (f := 84) (args := #[.int .i64 e1.B, .int .i64 r1.2]) (by kernel_rfl) (mach_fits_ok e1.B r1.2 _ _ rfl) ?_
          rintro _ w16 ⟨rfl, hS45⟩
          refine ⟨_, rfl, hS45.below, ?_⟩
          have hS46 := hS44.call hS45
          refine ge_batch [10, 11, 12] (ans := []) (vs := [(61, .bool (!(mach_fits.f e1.B r1.2))), (60, .bool (!(mach_fits.f e1.B r1.2))), (59, .bool (!(mach_fits.f e1.B r1.2)))]) (l := []) (by kernel_rfl) trivial ?_
          by_cases hc6 : (mach_fits.f e1.B r1.2) = true
          · rw [if_pos hc6] at h
            refine ge_known (t := 61) (b := !(mach_fits.f e1.B r1.2)) (c := false) (by kernel_rfl) (congrArg (fun z => !z) hc6) ?_
            refine ge_batch [13, 14, 15, 16] (ans := [.val (.int .i64 e1.Op)]) (vs := [(65, .bool (e1.Op == 18)), (64, .bool (e1.Op == 18)), (63, .int .i64 e1.Op), (62, .pointer (some ⟨b3, 0, none⟩))]) (l := [.loaded ⟨b3, 0, none⟩ (.int .i64 e1.Op)]) (by kernel_rfl) ⟨hS46.cell 0 rfl rfl, trivial⟩ ?_
            by_cases hc7 : e1.Op = 18
            · rw [if_pos hc7] at h
              refine ge_known (t := 65) (b := (e1.Op == 18)) (c := true) (by kernel_rfl) (beq_iff_eq.2 hc7) ?_
              refine ge_batch [17, 18, 19, 20, 21] (ans := [.val (.int .i64 e1.A)]) (vs := [(70, .bool (e1.A == 0)), (69, .bool (e1.A == 0)), (68, .bool (e1.A == 0)), (67, .int .i64 e1.A), (66, .pointer (some ⟨b3, 1, none⟩))]) (l := [.loaded ⟨b3, 1, none⟩ (.int .i64 e1.A)]) (by kernel_rfl) ⟨hS46.cell 0 rfl rfl, trivial⟩ ?_
              refine ge_nil fun a hF => hK17 _ _ ?_ a hF
              by_cases hc8 : e1.A = 0
              · rw [if_pos hc8] at h
                refine we_known (t := 70) (b := (e1.A == 0)) (v := true) (by kernel_rfl) (beq_iff_eq.2 hc8) ?_
                refine we_true (by kernel_rfl) ?_
                refine we_seq fun K18 hK18 => ?_
                refine we_region [(0, 0), (1, 0), (2, 1), (3, 0), (4, 0), (5, 2), (6, 2)] rfl ?_
                refine ge_batch [0, 1] (ans := []) (vs := [(72, .int .i64 (i1 : Int)), (71, .func (.func 82) #[] #[])]) (l := []) (by kernel_rfl) trivial ?_
                refine ge_call (d := some 73) (f := 82) (args := #[.int .i64 3, .int .i64 (i1 : Int)]) (by kernel_rfl) (mach_Look_1_ok 3 (i1 : Int) _ _ rfl) ?_
                rintro _ w17 ⟨v4, m4, rfl, hS47⟩
                refine ⟨_, rfl, hS47.below, ?_⟩
                have hS48 := hS46.call hS47
                refine ge_batch [3, 4] (ans := []) (vs := [(75, .agg #[.int .i64 (((mach_Look_1.f 3 (i1 : Int)).2).Code), .int .i64 (((mach_Look_1.f 3 (i1 : Int)).2).At)]), (74, .agg #[v4, .map m4])]) (l := []) (by kernel_rfl) trivial ?_
                obtain ⟨Z4, cz4, rfl⟩ := hS48.open 0 rfl
                have hS49 := hS48.bring 4 rfl
                refine ge_set (b := b1) (j := 0) (cs := #[.slice none 0 0, .map none]) (t := 115) (vs := [(.slice Z4 (((mach_Look_1.f 3 (i1 : Int)).1).In).length cz4), .map m4]) hS49 (by kernel_rfl) rfl rfl fun w18 hS50 => ?_
                have hS51 : St w0 w18 [Own.blk b1 (.cells #[(.slice Z4 (((mach_Look_1.f 3 (i1 : Int)).1).In).length cz4), .map m4] 115 (0, 0)), Own.of (.slice Z4 (((mach_Look_1.f 3 (i1 : Int)).1).In).length cz4) 3 (((mach_Look_1.f 3 (i1 : Int)).1).In), Own.mapv (κ := Int) (ν := Int) m4 (((mach_Look_1.f 3 (i1 : Int)).1).Close), Own.blk b3 (.cells #[.int .i64 e1.Op, .int .i64 e1.A, .int .i64 e1.B] 29 (0, 0)), Own.blk b2 (.cells #[.int .i64 0, .int .i64 0] 40 (0, 0))] := hS50
                have hS52 := hS51.bring 4 rfl
                refine ge_set (b := b2) (j := 0) (cs := #[.int .i64 0, .int .i64 0]) (t := 40) (vs := [.int .i64 (((mach_Look_1.f 3 (i1 : Int)).2).Code), .int .i64 (((mach_Look_1.f 3 (i1 : Int)).2).At)]) hS52 (by kernel_rfl) rfl rfl fun w19 hS53 => ?_
                have hS54 : St w0 w19 [Own.blk b2 (.cells #[.int .i64 (((mach_Look_1.f 3 (i1 : Int)).2).Code), .int .i64 (((mach_Look_1.f 3 (i1 : Int)).2).At)] 40 (0, 0)), Own.blk b1 (.cells #[(.slice Z4 (((mach_Look_1.f 3 (i1 : Int)).1).In).length cz4), .map m4] 115 (0, 0)), Own.of (.slice Z4 (((mach_Look_1.f 3 (i1 : Int)).1).In).length cz4) 3 (((mach_Look_1.f 3 (i1 : Int)).1).In), Own.mapv (κ := Int) (ν := Int) m4 (((mach_Look_1.f 3 (i1 : Int)).1).Close), Own.blk b3 (.cells #[.int .i64 e1.Op, .int .i64 e1.A, .int .i64 e1.B] 29 (0, 0))] := hS53
                refine ge_nil fun a hF => hK18 _ _ ?_ a hF
                have hS55 := hS54.bring 3 rfl
                have hS56 := hS55.bring 3 rfl
                have hS57 := hS56.takeN 2
                obtain rfl := Option.some.inj h
                exact we_ret fun a hF => hQ _ _ _ (Outs.out nofun (Exits.on ⟨rfl, (post_ret (rs := [.cell 2 115, .cell 3 40]) (ans := [.val ((.slice Z4 (((mach_Look_1.f 3 (i1 : Int)).1).In).length cz4)), .val (.map m4), .val (.int .i64 (((mach_Look_1.f 3 (i1 : Int)).2).Code)), .val (.int .i64 (((mach_Look_1.f 3 (i1 : Int)).2).At))]) (vs := [.agg #[(.slice Z4 (((mach_Look_1.f 3 (i1 : Int)).1).In).length cz4), .map m4], .agg #[.int .i64 (((mach_Look_1.f 3 (i1 : Int)).2).Code), .int .i64 (((mach_Look_1.f 3 (i1 : Int)).2).At)]]) (l := [.loaded ⟨b1, 0, none⟩ ((.slice Z4 (((mach_Look_1.f 3 (i1 : Int)).1).In).length cz4)), .loaded ⟨b1, 1, none⟩ (.map m4), .loaded ⟨b2, 0, none⟩ (.int .i64 (((mach_Look_1.f 3 (i1 : Int)).2).Code)), .loaded ⟨b2, 1, none⟩ (.int .i64 (((mach_Look_1.f 3 (i1 : Int)).2).At))]) rfl (by kernel_rfl) ⟨hS54.cell 1 rfl rfl, hS54.cell 1 rfl rfl, hS54.cell 0 rfl rfl, hS54.cell 0 rfl rfl, trivial⟩ ⟨(.slice Z4 (((mach_Look_1.f 3 (i1 : Int)).1).In).length cz4), m4, rfl, hS57⟩) a hF⟩))
              · rw [if_neg hc8] at h
                refine we_known (t := 70) (b := (e1.A == 0)) (v := false) (by kernel_rfl) (beq_eq_false_iff_ne.2 hc8) ?_
                refine we_false (by kernel_rfl) ?_
                refine we_skip fun a hF => hK10 _ _ ?_ a hF
                refine we_region [(0, 0), (1, 0)] rfl ?_
                refine ge_addn (d := 76) (ty := 3) (x := (.tmp 25)) (y := (.const (.int .i64 1))) (t := 3) (t2 := 3) (k := .i64) (m := i1) (by kernel_rfl) (by kernel_rfl) (by kernel_rfl) (by have h0 := hR0.small; omega) ?_
                refine ge_batch [1] (ans := []) (vs := [(25, .int .i64 ((i1 + 1 : Nat) : Int))]) (l := []) (by kernel_rfl) trivial ?_
                have hS58 := hS46.bring 2 rfl
                have hS59 := hS58.bring 2 rfl
                have hS60 := hS59.takeN 2
                obtain rfl := Option.some.inj h
                exact ge_nil fun a hF => hQ _ _ _ (Outs.again ⟨hS60, hF.weaken ⟨by kernel_rfl, by kernel_rfl, by kernel_rfl, by kernel_rfl, by kernel_rfl, by kernel_rfl, by kernel_rfl, trivial⟩⟩)
            · rw [if_neg hc7] at h
              refine ge_known (t := 65) (b := (e1.Op == 18)) (c := false) (by kernel_rfl) (beq_eq_false_iff_ne.2 hc7) ?_
              refine ge_batch [17, 18, 19, 20, 21] (ans := []) (vs := [(70, .bool false), (69, .bool false), (68, undef), (67, undef), (66, undef)]) (l := []) (by kernel_rfl) trivial ?_
              refine ge_nil fun a hF => hK17 _ _ ?_ a hF
              refine we_false (by kernel_rfl) ?_
              refine we_skip fun a hF => hK10 _ _ ?_ a hF
              refine we_region [(0, 0), (1, 0)] rfl ?_
              refine ge_addn (d := 76) (ty := 3) (x := (.tmp 25)) (y := (.const (.int .i64 1))) (t := 3) (t2 := 3) (k := .i64) (m := i1) (by kernel_rfl) (by kernel_rfl) (by kernel_rfl) (by have h0 := hR0.small; omega) ?_
              refine ge_batch [1] (ans := []) (vs := [(25, .int .i64 ((i1 + 1 : Nat) : Int))]) (l := []) (by kernel_rfl) trivial ?_
              have hS61 := hS46.bring 2 rfl
              have hS62 := hS61.bring 2 rfl
              have hS63 := hS62.takeN 2
              obtain rfl := Option.some.inj h
              exact ge_nil fun a hF => hQ _ _ _ (Outs.again ⟨hS63, hF.weaken ⟨by kernel_rfl, by kernel_rfl, by kernel_rfl, by kernel_rfl, by kernel_rfl, by kernel_rfl, by kernel_rfl, trivial⟩⟩)
          · rw [if_neg hc6] at h
            refine ge_known (t := 61) (b := !(mach_fits.f e1.B r1.2)) (c := true) (by kernel_rfl) (congrArg (fun z => !z) (Bool.eq_false_iff.2 hc6)) ?_
            refine ge_batch [13, 14, 15, 16, 17, 18, 19, 20, 21] (ans := []) (vs := [(70, .bool true), (69, undef), (68, undef), (67, undef), (66, undef), (65, undef), (64, undef), (63, undef), (62, undef)]) (l := []) (by kernel_rfl) trivial ?_
            refine ge_nil fun a hF => hK17 _ _ ?_ a hF
            refine we_true (by kernel_rfl) ?_
            refine we_seq fun K19 hK19 => ?_
            refine we_region [(0, 0), (1, 0), (2, 1), (3, 0), (4, 0), (5, 2), (6, 2)] rfl ?_
            refine ge_batch [0, 1] (ans := []) (vs := [(72, .int .i64 (i1 : Int)), (71, .func (.func 82) #[] #[])]) (l := []) (by kernel_rfl) trivial ?_
            refine ge_call (d := some 73) (f := 82) (args := #[.int .i64 3, .int .i64 (i1 : Int)]) (by kernel_rfl) (mach_Look_1_ok 3 (i1 : Int) _ _ rfl) ?_
            rintro _ w20 ⟨v5, m5, rfl, hS64⟩
            refine ⟨_, rfl, hS64.below, ?_⟩
            have hS65 := hS46.call hS64
            refine ge_batch [3, 4] (ans := []) (vs := [(75, .agg #[.int .i64 (((mach_Look_1.f 3 (i1 : Int)).2).Code), .int .i64 (((mach_Look_1.f 3 (i1 : Int)).2).At)]), (74, .agg #[v5, .map m5])]) (l := []) (by kernel_rfl) trivial ?_
            obtain ⟨Z5, cz5, rfl⟩ := hS65.open 0 rfl
            have hS66 := hS65.bring 4 rfl
            refine ge_set (b := b1) (j := 0) (cs := #[.slice none 0 0, .map none]) (t := 115) (vs := [(.slice Z5 (((mach_Look_1.f 3 (i1 : Int)).1).In).length cz5), .map m5]) hS66 (by kernel_rfl) rfl rfl fun w21 hS67 => ?_
            have hS68 : St w0 w21 [Own.blk b1 (.cells #[(.slice Z5 (((mach_Look_1.f 3 (i1 : Int)).1).In).length cz5), .map m5] 115 (0, 0)), Own.of (.slice Z5 (((mach_Look_1.f 3 (i1 : Int)).1).In).length cz5) 3 (((mach_Look_1.f 3 (i1 : Int)).1).In), Own.mapv (κ := Int) (ν := Int) m5 (((mach_Look_1.f 3 (i1 : Int)).1).Close), Own.blk b3 (.cells #[.int .i64 e1.Op, .int .i64 e1.A, .int .i64 e1.B] 29 (0, 0)), Own.blk b2 (.cells #[.int .i64 0, .int .i64 0] 40 (0, 0))] := hS67
            have hS69 := hS68.bring 4 rfl
            refine ge_set (b := b2) (j := 0) (cs := #[.int .i64 0, .int .i64 0]) (t := 40) (vs := [.int .i64 (((mach_Look_1.f 3 (i1 : Int)).2).Code), .int .i64 (((mach_Look_1.f 3 (i1 : Int)).2).At)]) hS69 (by kernel_rfl) rfl rfl fun w22 hS70 => ?_
            have hS71 : St w0 w22 [Own.blk b2 (.cells #[.int .i64 (((mach_Look_1.f 3 (i1 : Int)).2).Code), .int .i64 (((mach_Look_1.f 3 (i1 : Int)).2).At)] 40 (0, 0)), Own.blk b1 (.cells #[(.slice Z5 (((mach_Look_1.f 3 (i1 : Int)).1).In).length cz5), .map m5] 115 (0, 0)), Own.of (.slice Z5 (((mach_Look_1.f 3 (i1 : Int)).1).In).length cz5) 3 (((mach_Look_1.f 3 (i1 : Int)).1).In), Own.mapv (κ := Int) (ν := Int) m5 (((mach_Look_1.f 3 (i1 : Int)).1).Close), Own.blk b3 (.cells #[.int .i64 e1.Op, .int .i64 e1.A, .int .i64 e1.B] 29 (0, 0))] := hS70
            refine ge_nil fun a hF => hK19 _ _ ?_ a hF
            have hS72 := hS71.bring 3 rfl
            have hS73 := hS72.bring 3 rfl
            have hS74 := hS73.takeN 2
            obtain rfl := Option.some.inj h
            exact we_ret fun a hF => hQ _ _ _ (Outs.out nofun (Exits.on ⟨rfl, (post_ret (rs := [.cell 2 115, .cell 3 40]) (ans := [.val ((.slice Z5 (((mach_Look_1.f 3 (i1 : Int)).1).In).length cz5)), .val (.map m5), .val (.int .i64 (((mach_Look_1.f 3 (i1 : Int)).2).Code)), .val (.int .i64 (((mach_Look_1.f 3 (i1 : Int)).2).At))]) (vs := [.agg #[(.slice Z5 (((mach_Look_1.f 3 (i1 : Int)).1).In).length cz5), .map m5], .agg #[.int .i64 (((mach_Look_1.f 3 (i1 : Int)).2).Code), .int .i64 (((mach_Look_1.f 3 (i1 : Int)).2).At)]]) (l := [.loaded ⟨b1, 0, none⟩ ((.slice Z5 (((mach_Look_1.f 3 (i1 : Int)).1).In).length cz5)), .loaded ⟨b1, 1, none⟩ (.map m5), .loaded ⟨b2, 0, none⟩ (.int .i64 (((mach_Look_1.f 3 (i1 : Int)).2).Code)), .loaded ⟨b2, 1, none⟩ (.int .i64 (((mach_Look_1.f 3 (i1 : Int)).2).At))]) rfl (by kernel_rfl) ⟨hS71.cell 1 rfl rfl, hS71.cell 1 rfl rfl, hS71.cell 0 rfl rfl, hS71.cell 0 rfl rfl, trivial⟩ ⟨(.slice Z5 (((mach_Look_1.f 3 (i1 : Int)).1).In).length cz5), m5, rfl, hS74⟩) a hF⟩))
        · rw [if_neg hc5] at h
          refine ge_known (t := 54) (b := !(mach_fits.f e1.A r1.1)) (c := true) (by kernel_rfl) (congrArg (fun z => !z) (Bool.eq_false_iff.2 hc5)) ?_
          refine ge_batch [6, 7, 8] (ans := []) (vs := [(57, undef), (56, undef), (55, undef)]) (l := []) (by kernel_rfl) trivial ?_
          refine ge_off rfl rfl rfl (by kernel_rfl) ?_
          refine ge_batch [10, 11, 12, 13, 14, 15, 16, 17, 18, 19, 20, 21] (ans := []) (vs := [(70, .bool true), (69, undef), (68, undef), (67, undef), (66, undef), (65, undef), (64, undef), (63, undef), (62, undef), (61, .bool true), (60, .bool true), (59, undef)]) (l := []) (by kernel_rfl) trivial ?_
          refine ge_nil fun a hF => hK17 _ _ ?_ a hF
          refine we_true (by kernel_rfl) ?_
          refine we_seq fun K20 hK20 => ?_
          refine we_region [(0, 0), (1, 0), (2, 1), (3, 0), (4, 0), (5, 2), (6, 2)] rfl ?_
          refine ge_batch [0, 1] (ans := []) (vs := [(72, .int .i64 (i1 : Int)), (71, .func (.func 82) #[] #[])]) (l := []) (by kernel_rfl) trivial ?_
          refine ge_call (d := some 73) (f := 82) (args := #[.int .i64 3, .int .i64 (i1 : Int)]) (by kernel_rfl) (mach_Look_1_ok 3 (i1 : Int) _ _ rfl) ?_
          rintro _ w23 ⟨v6, m6, rfl, hS75⟩
          refine ⟨_, rfl, hS75.below, ?_⟩
          have hS76 := hS44.call hS75
          refine ge_batch [3, 4] (ans := []) (vs := [(75, .agg #[.int .i64 (((mach_Look_1.f 3 (i1 : Int)).2).Code), .int .i64 (((mach_Look_1.f 3 (i1 : Int)).2).At)]), (74, .agg #[v6, .map m6])]) (l := []) (by kernel_rfl) trivial ?_
          obtain ⟨Z6, cz6, rfl⟩ := hS76.open 0 rfl
          have hS77 := hS76.bring 4 rfl
          refine ge_set (b := b1) (j := 0) (cs := #[.slice none 0 0, .map none]) (t := 115) (vs := [(.slice Z6 (((mach_Look_1.f 3 (i1 : Int)).1).In).length cz6), .map m6]) hS77 (by kernel_rfl) rfl rfl fun w24 hS78 => ?_
          have hS79 : St w0 w24 [Own.blk b1 (.cells #[(.slice Z6 (((mach_Look_1.f 3 (i1 : Int)).1).In).length cz6), .map m6] 115 (0, 0)), Own.of (.slice Z6 (((mach_Look_1.f 3 (i1 : Int)).1).In).length cz6) 3 (((mach_Look_1.f 3 (i1 : Int)).1).In), Own.mapv (κ := Int) (ν := Int) m6 (((mach_Look_1.f 3 (i1 : Int)).1).Close), Own.blk b3 (.cells #[.int .i64 e1.Op, .int .i64 e1.A, .int .i64 e1.B] 29 (0, 0)), Own.blk b2 (.cells #[.int .i64 0, .int .i64 0] 40 (0, 0))] := hS78
          have hS80 := hS79.bring 4 rfl
          refine ge_set (b := b2) (j := 0) (cs := #[.int .i64 0, .int .i64 0]) (t := 40) (vs := [.int .i64 (((mach_Look_1.f 3 (i1 : Int)).2).Code), .int .i64 (((mach_Look_1.f 3 (i1 : Int)).2).At)]) hS80 (by kernel_rfl) rfl rfl fun w25 hS81 => ?_
          have hS82 : St w0 w25 [Own.blk b2 (.cells #[.int .i64 (((mach_Look_1.f 3 (i1 : Int)).2).Code), .int .i64 (((mach_Look_1.f 3 (i1 : Int)).2).At)] 40 (0, 0)), Own.blk b1 (.cells #[(.slice Z6 (((mach_Look_1.f 3 (i1 : Int)).1).In).length cz6), .map m6] 115 (0, 0)), Own.of (.slice Z6 (((mach_Look_1.f 3 (i1 : Int)).1).In).length cz6) 3 (((mach_Look_1.f 3 (i1 : Int)).1).In), Own.mapv (κ := Int) (ν := Int) m6 (((mach_Look_1.f 3 (i1 : Int)).1).Close), Own.blk b3 (.cells #[.int .i64 e1.Op, .int .i64 e1.A, .int .i64 e1.B] 29 (0, 0))] := hS81
          refine ge_nil fun a hF => hK20 _ _ ?_ a hF
          have hS83 := hS82.bring 3 rfl
          have hS84 := hS83.bring 3 rfl
          have hS85 := hS84.takeN 2
          obtain rfl := Option.some.inj h
          exact we_ret fun a hF => hQ _ _ _ (Outs.out nofun (Exits.on ⟨rfl, (post_ret (rs := [.cell 2 115, .cell 3 40]) (ans := [.val ((.slice Z6 (((mach_Look_1.f 3 (i1 : Int)).1).In).length cz6)), .val (.map m6), .val (.int .i64 (((mach_Look_1.f 3 (i1 : Int)).2).Code)), .val (.int .i64 (((mach_Look_1.f 3 (i1 : Int)).2).At))]) (vs := [.agg #[(.slice Z6 (((mach_Look_1.f 3 (i1 : Int)).1).In).length cz6), .map m6], .agg #[.int .i64 (((mach_Look_1.f 3 (i1 : Int)).2).Code), .int .i64 (((mach_Look_1.f 3 (i1 : Int)).2).At)]]) (l := [.loaded ⟨b1, 0, none⟩ ((.slice Z6 (((mach_Look_1.f 3 (i1 : Int)).1).In).length cz6)), .loaded ⟨b1, 1, none⟩ (.map m6), .loaded ⟨b2, 0, none⟩ (.int .i64 (((mach_Look_1.f 3 (i1 : Int)).2).Code)), .loaded ⟨b2, 1, none⟩ (.int .i64 (((mach_Look_1.f 3 (i1 : Int)).2).At))]) rfl (by kernel_rfl) ⟨hS82.cell 1 rfl rfl, hS82.cell 1 rfl rfl, hS82.cell 0 rfl rfl, hS82.cell 0 rfl rfl, trivial⟩ ⟨(.slice Z6 (((mach_Look_1.f 3 (i1 : Int)).1).In).length cz6), m6, rfl, hS85⟩) a hF⟩))
  · rw [if_neg hc2] at h
    refine we_known (t := 26) (b := decide ((i1 : Int) < (l0.length : Int))) (v := false) (by kernel_rfl) (decide_eq_false hc2) ?_
    refine we_false (by kernel_rfl) ?_
    have hS86 := hS.bring 1 rfl
    have hS87 := hS86.bring 1 rfl
    obtain rfl := Option.some.inj h
    exact we_exit fun a hF => hQ _ _ _ (Outs.out nofun (Exits.here ⟨hS87, hF.weaken ⟨by kernel_rfl, by kernel_rfl, by kernel_rfl, by kernel_rfl, trivial⟩⟩))
abbrev mach_Look.A1 (K : Nat) (w0 : World) (l0 : List SIns) (A0 : Option Addr) (c0 : Nat) (hR0 : RdL w0 A0 l0) (hL0 : l0.length ≤ c0) (b1 : Nat) (b2 : Nat) (hc1 : ¬ ((l0.length : Int) > 2000)) (hc9 : l0.length ≤ 17592186044416) (b4 : Nat) (Z7 : Option Addr) (cz7 : Nat) (b5 : Nat) : (Nat × (List Int) × (List Int) × (List (Int × Int))) → Act → World → Prop := fun (s : Nat × (List Int) × (List Int) × (List (Int × Int))) a w => ∃ (v8 : Value) (v9 : Value), St w0 w [Own.blk b5 (.cells #[.slice A0 l0.length c0, v8, v9, .map (some b4)] 143 (0, 0)), Own.blk b2 (.cells #[.int .i64 0, .int .i64 0] 40 (0, 0)), Own.blk b1 (.cells #[.slice none 0 0, .map none] 115 (0, 0)), Own.of v8 3 s.2.1, Own.of v9 3 s.2.2.1, Own.map (κ := Int) (ν := Int) b4 s.2.2.2] ∧ Frm 209 a [(0, .slice A0 l0.length c0), (2, .pointer (some ⟨b1, 0, none⟩)), (3, .pointer (some ⟨b2, 0, none⟩)), (4, .func (.func 82) #[] #[]), (9, .pointer (some ⟨b5, 0, none⟩)), (86, .int .i64 (l0.length : Int)), (87, .int .i64 (s.1 : Int))]
abbrev mach_Look.B1 (K : Nat) (w0 : World) (l0 : List SIns) (A0 : Option Addr) (c0 : Nat) (hR0 : RdL w0 A0 l0) (hL0 : l0.length ≤ c0) (b1 : Nat) (b2 : Nat) (hc1 : ¬ ((l0.length : Int) > 2000)) (hc9 : l0.length ≤ 17592186044416) (b4 : Nat) (Z7 : Option Addr) (cz7 : Nat) (b5 : Nat) : (((List Int) × (List Int) × (List (Int × Int))) ⊕ (SShape × SFault)) → Exit → Act → World → Prop := Exits 2 (fun (s : (List Int) × (List Int) × (List (Int × Int))) a w => ∃ (v10 : Value) (v11 : Value), St w0 w [Own.blk b5 (.cells #[.slice A0 l0.length c0, v10, v11, .map (some b4)] 143 (0, 0)), Own.blk b2 (.cells #[.int .i64 0, .int .i64 0] 40 (0, 0)), Own.blk b1 (.cells #[.slice none 0 0, .map none] 115 (0, 0)), Own.of v10 3 s.1, Own.of v11 3 s.2.1, Own.map (κ := Int) (ν := Int) b4 s.2.2] ∧ Frm 209 a [(0, .slice A0 l0.length c0), (2, .pointer (some ⟨b1, 0, none⟩)), (3, .pointer (some ⟨b2, 0, none⟩)), (4, .func (.func 82) #[] #[]), (9, .pointer (some ⟨b5, 0, none⟩))]) (Rets Try.prog Try.f62 (mach_Look.Post w0))
theorem mach_Look_r1 (K : Nat) (w0 : World) (l0 : List SIns) (A0 : Option Addr) (c0 : Nat) (hR0 : RdL w0 A0 l0) (hL0 : l0.length ≤ c0) (b1 : Nat) (b2 : Nat) (hc1 : ¬ ((l0.length : Int) > 2000)) (hc9 : l0.length ≤ 17592186044416) (b4 : Nat) (Z7 : Option Addr) (cz7 : Nat) (b5 : Nat) (s : Nat × (List Int) × (List Int) × (List (Int × Int))) (o : (Nat × (List Int) × (List Int) × (List (Int × Int))) ⊕ (((List Int) × (List Int) × (List (Int × Int))) ⊕ (SShape × SFault))) (h : mach_Look.r1 K l0 s = some o) (a : Act) (w : World) (hA : mach_Look.A1 K w0 l0 A0 c0 hR0 hL0 b1 b2 hc1 hc9 b4 Z7 cz7 b5 s a w) (Q : Exit → Act → World → Prop) (hQ : ∀ x a w, Outs (mach_Look.A1 K w0 l0 A0 c0 hR0 hL0 b1 b2 hc1 hc9 b4 Z7 cz7 b5) (mach_Look.B1 K w0 l0 A0 c0 hR0 hL0 b1 b2 hc1 hc9 b4 Z7 cz7 b5) o x a w → Q x a w) : (subF Try.f62 [1, 1, 1, 1, 1, 0, 1, 0, 0]).wp Try.prog Q a w := by
  obtain ⟨i2, m7, m8, mp1⟩ := s
  obtain ⟨v8, v9, hS, hF⟩ := hA
  replace hS : St w0 w [Own.blk b5 (.cells #[.slice A0 l0.length c0, v8, v9, .map (some b4)] 143 (0, 0)), Own.blk b2 (.cells #[.int .i64 0, .int .i64 0] 40 (0, 0)), Own.blk b1 (.cells #[.slice none 0 0, .map none] 115 (0, 0)), Own.of v8 3 m7, Own.of v9 3 m8, Own.map (κ := Int) (ν := Int) b4 mp1] := hS
  simp only [mach_Look.r1] at h
  refine (?_ : WE Try.prog 209 (subF Try.f62 [1, 1, 1, 1, 1, 0, 1, 0, 0]) Q [(0, .slice A0 l0.length c0), (2, .pointer (some ⟨b1, 0, none⟩)), (3, .pointer (some ⟨b2, 0, none⟩)), (4, .func (.func 82) #[] #[]), (9, .pointer (some ⟨b5, 0, none⟩)), (86, .int .i64 (l0.length : Int)), (87, .int .i64 (i2 : Int))] w) a hF
  clear hF a
  refine we_seq fun K24 hK24 => ?_
  refine we_region [(0, 0)] rfl ?_
  refine ge_batch [0] (ans := []) (vs := [(88, .bool (decide ((i2 : Int) < (l0.length : Int))))]) (l := []) (by kernel_rfl) trivial ?_
  refine ge_nil fun a hF => hK24 _ _ ?_ a hF
  refine we_seq fun K25 hK25 => ?_
  by_cases hc10 : (i2 : Int) < (l0.length : Int)
  · rw [if_pos hc10] at h
    refine we_known (t := 88) (b := decide ((i2 : Int) < (l0.length : Int))) (v := true) (by kernel_rfl) (decide_eq_true hc10) ?_
    refine we_true (by kernel_rfl) ?_
    refine we_skip fun a hF => hK25 _ _ ?_ a hF
    refine we_seq fun K26 hK26 => ?_
    refine we_block ?_
    refine we_seq fun K27 hK27 => ?_
    refine we_region [(0, 0), (1, 0)] rfl ?_
    refine ge_batch [0, 1] (ans := []) (vs := [(10, .int .i64 (i2 : Int)), (89, .int .i64 (i2 : Int))]) (l := []) (by kernel_rfl) trivial ?_
    refine ge_nil fun a hF => hK27 _ _ ?_ a hF
    refine we_seq fun K28 hK28 => ?_
    refine we_region [(0, 0), (1, 0), (2, 2), (3, 0)] rfl ?_
    refine ge_batch [0, 1] (ans := []) (vs := [(91, .int .i64 (i2 : Int)), (90, .pointer (some ⟨b5, 0, none⟩))]) (l := []) (by kernel_rfl) trivial ?_
    obtain ⟨Z8, cz8, rfl⟩ := hS.open 3 rfl
    obtain ⟨Z9, cz9, rfl⟩ := hS.open 4 rfl
    rcases hq11 : mach_looker_region.f K l0 m7 m8 mp1 (i2 : Int) with _ | r2
    · rw [hq11] at h; cases h
    rw [hq11] at h
    simp only [] at h
    have hS100 := hS.bring 5 rfl
    have hS101 := hS100.bring 5 rfl
    have hS102 := hS101.bring 5 rfl
    have hS103 := hS102.bring 3 rfl
    have hS105 : St w0 w [Own.blk b5 (.cells #[.slice A0 l0.length c0, (.slice Z8 m7.length cz8), (.slice Z9 m8.length cz9), .map (some b4)] 143 (0, 0)), Own.of (.slice Z8 m7.length cz8) 3 m7, Own.of (.slice Z9 m8.length cz9) 3 m8, Own.map (κ := Int) (ν := Int) b4 mp1, Own.all [Own.blk b2 (.cells #[.int .i64 0, .int .i64 0] 40 (0, 0)), Own.blk b1 (.cells #[.slice none 0 0, .map none] 115 (0, 0))]] := hS103.packN 4
    refine ge_call2 (m := 0) (d := some 92) (f := 85) (args := #[.pointer (some ⟨b5, 0, none⟩), .int .i64 (i2 : Int)]) (by kernel_rfl) (mach_looker_region_ok K b5 l0 A0 c0 m7 Z8 cz8 m8 Z9 cz9 mp1 b4 (i2 : Int) _ _ _ hS105 hR0 hL0 _ hq11) ?_
    rintro _ w30 ⟨v12, v13, rfl, hS104⟩
    refine ⟨_, rfl, ?_⟩
    have hS106 : St w0 w30 [Own.blk b5 (.cells #[.slice A0 l0.length c0, v12, v13, .map (some b4)] 143 (0, 0)), Own.of v12 3 r2.2.1, Own.of v13 3 r2.2.2.1, Own.map (κ := Int) (ν := Int) b4 r2.2.2.2, Own.blk b2 (.cells #[.int .i64 0, .int .i64 0] 40 (0, 0)), Own.blk b1 (.cells #[.slice none 0 0, .map none] 115 (0, 0))] := hS104.unpack [Own.blk b5 (.cells #[.slice A0 l0.length c0, v12, v13, .map (some b4)] 143 (0, 0)), Own.of v12 3 r2.2.1, Own.of v13 3 r2.2.2.1, Own.map (κ := Int) (ν := Int) b4 r2.2.2.2]
    refine ge_batch [3] (ans := []) (vs := [(11, .int .i64 r2.1)]) (l := []) (by kernel_rfl) trivial ?_
    refine ge_nil fun a hF => hK28 _ _ ?_ a hF
    refine we_seq fun K29 hK29 => ?_
    refine we_region [(0, 0), (1, 0)] rfl ?_
    refine ge_batch [0, 1] (ans := []) (vs := [(94, .bool (r2.1 != 0)), (93, .int .i64 r2.1)]) (l := []) (by kernel_rfl) trivial ?_
    refine ge_nil fun a hF => hK29 _ _ ?_ a hF
    by_cases hc11 : r2.1 = 0
    · rw [if_pos hc11] at h
      refine we_known (t := 94) (b := (r2.1 != 0)) (v := false) (by kernel_rfl) (bne_eq_false_iff_eq.2 hc11) ?_
      refine we_false (by kernel_rfl) ?_
      refine we_skip fun a hF => hK26 _ _ ?_ a hF
      refine we_region [(0, 0), (1, 0)] rfl ?_
      refine ge_addn (d := 101) (ty := 3) (x := (.tmp 87)) (y := (.const (.int .i64 1))) (t := 3) (t2 := 3) (k := .i64) (m := i2) (by kernel_rfl) (by kernel_rfl) (by kernel_rfl) (by have h0 := hR0.small; omega) ?_
      refine ge_batch [1] (ans := []) (vs := [(87, .int .i64 ((i2 + 1 : Nat) : Int))]) (l := []) (by kernel_rfl) trivial ?_
      have hS107 := hS106.bring 3 rfl
      have hS108 := hS107.bring 3 rfl
      have hS109 := hS108.bring 3 rfl
      have hS110 := hS109.bring 5 rfl
      have hS111 := hS110.bring 5 rfl
      have hS112 := hS111.bring 5 rfl
      obtain rfl := Option.some.inj h
      exact ge_nil fun a hF => hQ _ _ _ (Outs.again ⟨v12, v13, hS112, hF.weaken ⟨by kernel_rfl, by kernel_rfl, by kernel_rfl, by kernel_rfl, by kernel_rfl, by kernel_rfl, by kernel_rfl, trivial⟩⟩)
    · rw [if_neg hc11] at h
      refine we_known (t := 94) (b := (r2.1 != 0)) (v := true) (by kernel_rfl) (bne_iff_ne.2 hc11) ?_
      refine we_true (by kernel_rfl) ?_
      refine we_seq fun K30 hK30 => ?_
      refine we_region [(0, 0), (1, 0), (2, 0), (3, 1), (4, 0), (5, 0), (6, 2), (7, 2)] rfl ?_
      refine ge_batch [0, 1, 2] (ans := []) (vs := [(97, .int .i64 (i2 : Int)), (96, .int .i64 r2.1), (95, .func (.func 82) #[] #[])]) (l := []) (by kernel_rfl) trivial ?_
      refine ge_call (d := some 98) (f := 82) (args := #[.int .i64 r2.1, .int .i64 (i2 : Int)]) (by kernel_rfl) (mach_Look_1_ok r2.1 (i2 : Int) _ _ rfl) ?_
      rintro _ w31 ⟨v14, m11, rfl, hS113⟩
      refine ⟨_, rfl, hS113.below, ?_⟩
      have hS114 := hS106.call hS113
      refine ge_batch [4, 5] (ans := []) (vs := [(100, .agg #[.int .i64 (((mach_Look_1.f r2.1 (i2 : Int)).2).Code), .int .i64 (((mach_Look_1.f r2.1 (i2 : Int)).2).At)]), (99, .agg #[v14, .map m11])]) (l := []) (by kernel_rfl) trivial ?_
      obtain ⟨Z10, cz10, rfl⟩ := hS114.open 0 rfl
      have hS115 := hS114.bring 7 rfl
      refine ge_set (b := b1) (j := 0) (cs := #[.slice none 0 0, .map none]) (t := 115) (vs := [(.slice Z10 (((mach_Look_1.f r2.1 (i2 : Int)).1).In).length cz10), .map m11]) hS115 (by kernel_rfl) rfl rfl fun w32 hS116 => ?_
      have hS117 : St w0 w32 [Own.blk b1 (.cells #[(.slice Z10 (((mach_Look_1.f r2.1 (i2 : Int)).1).In).length cz10), .map m11] 115 (0, 0)), Own.of (.slice Z10 (((mach_Look_1.f r2.1 (i2 : Int)).1).In).length cz10) 3 (((mach_Look_1.f r2.1 (i2 : Int)).1).In), Own.mapv (κ := Int) (ν := Int) m11 (((mach_Look_1.f r2.1 (i2 : Int)).1).Close), Own.blk b5 (.cells #[.slice A0 l0.length c0, v12, v13, .map (some b4)] 143 (0, 0)), Own.of v12 3 r2.2.1, Own.of v13 3 r2.2.2.1, Own.map (κ := Int) (ν := Int) b4 r2.2.2.2, Own.blk b2 (.cells #[.int .i64 0, .int .i64 0] 40 (0, 0))] := hS116
      have hS118 := hS117.bring 7 rfl
      refine ge_set (b := b2) (j := 0) (cs := #[.int .i64 0, .int .i64 0]) (t := 40) (vs := [.int .i64 (((mach_Look_1.f r2.1 (i2 : Int)).2).Code), .int .i64 (((mach_Look_1.f r2.1 (i2 : Int)).2).At)]) hS118 (by kernel_rfl) rfl rfl fun w33 hS119 => ?_
      have hS120 : St w0 w33 [Own.blk b2 (.cells #[.int .i64 (((mach_Look_1.f r2.1 (i2 : Int)).2).Code), .int .i64 (((mach_Look_1.f r2.1 (i2 : Int)).2).At)] 40 (0, 0)), Own.blk b1 (.cells #[(.slice Z10 (((mach_Look_1.f r2.1 (i2 : Int)).1).In).length cz10), .map m11] 115 (0, 0)), Own.of (.slice Z10 (((mach_Look_1.f r2.1 (i2 : Int)).1).In).length cz10) 3 (((mach_Look_1.f r2.1 (i2 : Int)).1).In), Own.mapv (κ := Int) (ν := Int) m11 (((mach_Look_1.f r2.1 (i2 : Int)).1).Close), Own.blk b5 (.cells #[.slice A0 l0.length c0, v12, v13, .map (some b4)] 143 (0, 0)), Own.of v12 3 r2.2.1, Own.of v13 3 r2.2.2.1, Own.map (κ := Int) (ν := Int) b4 r2.2.2.2] := hS119
      refine ge_nil fun a hF => hK30 _ _ ?_ a hF
      have hS121 := hS120.bring 3 rfl
      have hS122 := hS121.bring 3 rfl
      have hS123 := hS122.takeN 2
      obtain rfl := Option.some.inj h
      exact we_ret fun a hF => hQ _ _ _ (Outs.out nofun (Exits.on ⟨rfl, (post_ret (rs := [.cell 2 115, .cell 3 40]) (ans := [.val ((.slice Z10 (((mach_Look_1.f r2.1 (i2 : Int)).1).In).length cz10)), .val (.map m11), .val (.int .i64 (((mach_Look_1.f r2.1 (i2 : Int)).2).Code)), .val (.int .i64 (((mach_Look_1.f r2.1 (i2 : Int)).2).At))]) (vs := [.agg #[(.slice Z10 (((mach_Look_1.f r2.1 (i2 : Int)).1).In).length cz10), .map m11], .agg #[.int .i64 (((mach_Look_1.f r2.1 (i2 : Int)).2).Code), .int .i64 (((mach_Look_1.f r2.1 (i2 : Int)).2).At)]]) (l := [.loaded ⟨b1, 0, none⟩ ((.slice Z10 (((mach_Look_1.f r2.1 (i2 : Int)).1).In).length cz10)), .loaded ⟨b1, 1, none⟩ (.map m11), .loaded ⟨b2, 0, none⟩ (.int .i64 (((mach_Look_1.f r2.1 (i2 : Int)).2).Code)), .loaded ⟨b2, 1, none⟩ (.int .i64 (((mach_Look_1.f r2.1 (i2 : Int)).2).At))]) rfl (by kernel_rfl) ⟨hS120.cell 1 rfl rfl, hS120.cell 1 rfl rfl, hS120.cell 0 rfl rfl, hS120.cell 0 rfl rfl, trivial⟩ ⟨(.slice Z10 (((mach_Look_1.f r2.1 (i2 : Int)).1).In).length cz10), m11, rfl, hS123⟩) a hF⟩))
  · rw [if_neg hc10] at h
    refine we_known (t := 88) (b := decide ((i2 : Int) < (l0.length : Int))) (v := false) (by kernel_rfl) (decide_eq_false hc10) ?_
    refine we_false (by kernel_rfl) ?_
    have hS124 := hS.bring 5 rfl
    have hS125 := hS124.bring 5 rfl
    have hS126 := hS125.bring 5 rfl
    have hS127 := hS126.bring 5 rfl
    have hS128 := hS127.bring 5 rfl
    have hS129 := hS128.bring 5 rfl
    obtain rfl := Option.some.inj h
    exact we_exit fun a hF => hQ _ _ _ (Outs.out nofun (Exits.here ⟨v8, v9, hS129, hF.weaken ⟨by kernel_rfl, by kernel_rfl, by kernel_rfl, by kernel_rfl, by kernel_rfl, trivial⟩⟩))
abbrev mach_Look.A2 (K : Nat) (w0 : World) (l0 : List SIns) (A0 : Option Addr) (c0 : Nat) (hR0 : RdL w0 A0 l0) (hL0 : l0.length ≤ c0) (b1 : Nat) (b2 : Nat) (hc1 : ¬ ((l0.length : Int) > 2000)) (hc9 : l0.length ≤ 17592186044416) (b4 : Nat) (Z7 : Option Addr) (cz7 : Nat) (b5 : Nat) (m12 : List Int) (m13 : List Int) (mp3 : List (Int × Int)) (Z11 : Option Addr) (cz11 : Nat) (hc12 : ¬ ((m12.length : Int) > 0)) (Z14 : Option Addr) (cz14 : Nat) : Nat → Act → World → Prop := fun (s : Nat) a w => St w0 w [Own.blk b5 (.cells #[.slice A0 l0.length c0, (.slice Z11 m12.length cz11), (.slice Z14 m13.length cz14), .map (some b4)] 143 (0, 0)), Own.blk b2 (.cells #[.int .i64 0, .int .i64 0] 40 (0, 0)), Own.blk b1 (.cells #[.slice none 0 0, .map none] 115 (0, 0)), Own.of (.slice Z11 m12.length cz11) 3 m12, Own.of (.slice Z14 m13.length cz14) 3 m13, Own.map (κ := Int) (ν := Int) b4 mp3] ∧ Frm 209 a [(0, .slice A0 l0.length c0), (2, .pointer (some ⟨b1, 0, none⟩)), (3, .pointer (some ⟨b2, 0, none⟩)), (4, .func (.func 82) #[] #[]), (9, .pointer (some ⟨b5, 0, none⟩)), (139, .slice A0 l0.length c0), (140, .int .i64 (l0.length : Int)), (141, .int .i64 (s : Int))]
abbrev mach_Look.B2 (K : Nat) (w0 : World) (l0 : List SIns) (A0 : Option Addr) (c0 : Nat) (hR0 : RdL w0 A0 l0) (hL0 : l0.length ≤ c0) (b1 : Nat) (b2 : Nat) (hc1 : ¬ ((l0.length : Int) > 2000)) (hc9 : l0.length ≤ 17592186044416) (b4 : Nat) (Z7 : Option Addr) (cz7 : Nat) (b5 : Nat) (m12 : List Int) (m13 : List Int) (mp3 : List (Int × Int)) (Z11 : Option Addr) (cz11 : Nat) (hc12 : ¬ ((m12.length : Int) > 0)) (Z14 : Option Addr) (cz14 : Nat) : (Unit ⊕ (SShape × SFault)) → Exit → Act → World → Prop := Exits 4 (fun (s : Unit) a w => St w0 w [Own.blk b5 (.cells #[.slice A0 l0.length c0, (.slice Z11 m12.length cz11), (.slice Z14 m13.length cz14), .map (some b4)] 143 (0, 0)), Own.blk b2 (.cells #[.int .i64 0, .int .i64 0] 40 (0, 0)), Own.blk b1 (.cells #[.slice none 0 0, .map none] 115 (0, 0)), Own.of (.slice Z11 m12.length cz11) 3 m12, Own.of (.slice Z14 m13.length cz14) 3 m13, Own.map (κ := Int) (ν := Int) b4 mp3] ∧ Frm 209 a [(0, .slice A0 l0.length c0), (2, .pointer (some ⟨b1, 0, none⟩)), (3, .pointer (some ⟨b2, 0, none⟩)), (9, .pointer (some ⟨b5, 0, none⟩))]) (Rets Try.prog Try.f62 (mach_Look.Post w0))
theorem mach_Look_r2 (K : Nat) (w0 : World) (l0 : List SIns) (A0 : Option Addr) (c0 : Nat) (hR0 : RdL w0 A0 l0) (hL0 : l0.length ≤ c0) (b1 : Nat) (b2 : Nat) (hc1 : ¬ ((l0.length : Int) > 2000)) (hc9 : l0.length ≤ 17592186044416) (b4 : Nat) (Z7 : Option Addr) (cz7 : Nat) (b5 : Nat) (m12 : List Int) (m13 : List Int) (mp3 : List (Int × Int)) (Z11 : Option Addr) (cz11 : Nat) (hc12 : ¬ ((m12.length : Int) > 0)) (Z14 : Option Addr) (cz14 : Nat) (s : Nat) (o : Nat ⊕ (Unit ⊕ (SShape × SFault))) (h : mach_Look.r2 l0 m13 s = some o) (a : Act) (w : World) (hA : mach_Look.A2 K w0 l0 A0 c0 hR0 hL0 b1 b2 hc1 hc9 b4 Z7 cz7 b5 m12 m13 mp3 Z11 cz11 hc12 Z14 cz14 s a w) (Q : Exit → Act → World → Prop) (hQ : ∀ x a w, Outs (mach_Look.A2 K w0 l0 A0 c0 hR0 hL0 b1 b2 hc1 hc9 b4 Z7 cz7 b5 m12 m13 mp3 Z11 cz11 hc12 Z14 cz14) (mach_Look.B2 K w0 l0 A0 c0 hR0 hL0 b1 b2 hc1 hc9 b4 Z7 cz7 b5 m12 m13 mp3 Z11 cz11 hc12 Z14 cz14) o x a w → Q x a w) : (subF Try.f62 [1, 1, 1, 1, 1, 1, 1, 0, 1, 0, 0]).wp Try.prog Q a w := by
  obtain ⟨i3, hs⟩ : ∃ z, z = s := ⟨s, rfl⟩
  subst hs
  obtain ⟨hS, hF⟩ := hA
  replace hS : St w0 w [Own.blk b5 (.cells #[.slice A0 l0.length c0, (.slice Z11 m12.length cz11), (.slice Z14 m13.length cz14), .map (some b4)] 143 (0, 0)), Own.blk b2 (.cells #[.int .i64 0, .int .i64 0] 40 (0, 0)), Own.blk b1 (.cells #[.slice none 0 0, .map none] 115 (0, 0)), Own.of (.slice Z11 m12.length cz11) 3 m12, Own.of (.slice Z14 m13.length cz14) 3 m13, Own.map (κ := Int) (ν := Int) b4 mp3] := hS
  simp only [mach_Look.r2] at h
  refine (?_ : WE Try.prog 209 (subF Try.f62 [1, 1, 1, 1, 1, 1, 1, 0, 1, 0, 0]) Q [(0, .slice A0 l0.length c0), (2, .pointer (some ⟨b1, 0, none⟩)), (3, .pointer (some ⟨b2, 0, none⟩)), (4, .func (.func 82) #[] #[]), (9, .pointer (some ⟨b5, 0, none⟩)), (139, .slice A0 l0.length c0), (140, .int .i64 (l0.length : Int)), (141, .int .i64 (i3 : Int))] w) a hF
  clear hF a
  refine we_seq fun K39 hK39 => ?_
  refine we_region [(0, 0)] rfl ?_
  refine ge_batch [0] (ans := []) (vs := [(142, .bool (decide ((i3 : Int) < (l0.length : Int))))]) (l := []) (by kernel_rfl) trivial ?_
  refine ge_nil fun a hF => hK39 _ _ ?_ a hF
  refine we_seq fun K40 hK40 => ?_
  by_cases hc15 : (i3 : Int) < (l0.length : Int)
  · rw [if_pos hc15] at h
    refine we_known (t := 142) (b := decide ((i3 : Int) < (l0.length : Int))) (v := true) (by kernel_rfl) (decide_eq_true hc15) ?_
    refine we_true (by kernel_rfl) ?_
    refine we_skip fun a hF => hK40 _ _ ?_ a hF
    refine we_seq fun K41 hK41 => ?_
    refine we_block ?_
    refine we_seq fun K42 hK42 => ?_
    refine we_region [(0, 0), (1, 0), (2, 0), (3, 1), (4, 0), (5, 2)] rfl ?_
    refine ge_batch [0] (ans := []) (vs := [(143, .int .i64 (i3 : Int))]) (l := []) (by kernel_rfl) trivial ?_
    rcases hx9 : l0[i3]? with _ | e4
    · rw [hx9] at h; cases h
    rw [hx9] at h
    simp only [] at h
    refine ge_index (d := 144) (ty := 0) (t := 68) (el := 29) (sz := 3) (m := l0.length) (c := c0) (x := (.tmp 139)) (y := (.tmp 141)) (A := A0) (k' := .i64) (j := (i3 : Int)) (jn := i3) (b0 := blkOf A0) (o0 := offOf A0) (by kernel_rfl) (by kernel_rfl) (by kernel_rfl) (by kernel_rfl) (by kernel_rfl) ((hS.rd hR0).eqSome (pos_of_get hx9)) rfl (lt_of_get hx9) ?_
    refine ge_batch [2] (ans := [.val (.int .i64 e4.Op), .val (.int .i64 e4.A), .val (.int .i64 e4.B)]) (vs := [(145, .agg #[.int .i64 e4.Op, .int .i64 e4.A, .int .i64 e4.B])]) (l := [.loaded ⟨blkOf A0, offOf A0 + i3 * 3, none⟩ (.int .i64 e4.Op), .loaded ⟨blkOf A0, offOf A0 + i3 * 3 + 1, none⟩ (.int .i64 e4.A), .loaded ⟨blkOf A0, offOf A0 + i3 * 3 + 2, none⟩ (.int .i64 e4.B)]) (by kernel_rfl) ⟨RdL.cell (j := 0) (hS.rd hR0) hx9 rfl, RdL.cell (j := 1) (hS.rd hR0) hx9 rfl, RdL.cell (j := 2) (hS.rd hR0) hx9 rfl, trivial⟩ ?_
    refine ge_new (d := some 13) (o := .cells #[.int .i64 0, .int .i64 0, .int .i64 0] 29) (v := fun b => .pointer (some ⟨b, 0, none⟩)) hS (fun b => by kernel_rfl) fun b6 w41 hx10 hS159 => ?_
    refine ge_batch [4] (ans := []) (vs := [(12, .int .i64 (i3 : Int))]) (l := []) (by kernel_rfl) trivial ?_
    refine ge_set (b := b6) (j := 0) (cs := #[.int .i64 0, .int .i64 0, .int .i64 0]) (t := 29) (vs := [.int .i64 e4.Op, .int .i64 e4.A, .int .i64 e4.B]) hS159 (by kernel_rfl) rfl rfl fun w42 hS160 => ?_
    have hS161 : St w0 w42 [Own.blk b6 (.cells #[.int .i64 e4.Op, .int .i64 e4.A, .int .i64 e4.B] 29 (0, 0)), Own.blk b5 (.cells #[.slice A0 l0.length c0, (.slice Z11 m12.length cz11), (.slice Z14 m13.length cz14), .map (some b4)] 143 (0, 0)), Own.blk b2 (.cells #[.int .i64 0, .int .i64 0] 40 (0, 0)), Own.blk b1 (.cells #[.slice none 0 0, .map none] 115 (0, 0)), Own.of (.slice Z11 m12.length cz11) 3 m12, Own.of (.slice Z14 m13.length cz14) 3 m13, Own.map (κ := Int) (ν := Int) b4 mp3] := hS160
    refine ge_nil fun a hF => hK42 _ _ ?_ a hF
    refine we_seq fun K43 hK43 => ?_
    refine we_seq fun K44 hK44 => ?_
    refine we_region [(0, 0), (1, 0), (2, 0), (3, 0), (4, 0), (5, 0), (6, 0), (7, 0)] rfl ?_
    refine ge_batch [0, 1, 2, 3] (ans := [.val (.int .i64 e4.Op)]) (vs := [(149, .bool (e4.Op != 11)), (148, .bool (e4.Op != 11)), (147, .int .i64 e4.Op), (146, .pointer (some ⟨b6, 0, none⟩))]) (l := [.loaded ⟨b6, 0, none⟩ (.int .i64 e4.Op)]) (by kernel_rfl) ⟨hS161.cell 0 rfl rfl, trivial⟩ ?_
    by_cases hc16 : e4.Op = 11
    · rw [if_pos hc16] at h
      refine ge_known (t := 149) (b := (e4.Op != 11)) (c := false) (by kernel_rfl) (bne_eq_false_iff_eq.2 hc16) ?_
      refine ge_batch [4, 5, 6, 7] (ans := []) (vs := [(153, .bool false), (152, undef), (151, undef), (150, undef)]) (l := []) (by kernel_rfl) trivial ?_
      refine ge_nil fun a hF => hK44 _ _ ?_ a hF
      refine we_false (by kernel_rfl) ?_
      refine we_skip fun a hF => hK43 _ _ ?_ a hF
      refine we_seq fun K45 hK45 => ?_
      refine we_region [(0, 0)] rfl ?_
      refine ge_batch [0] (ans := []) (vs := [(14, .int .i64 (-1))]) (l := []) (by kernel_rfl) trivial ?_
      refine ge_nil fun a hF => hK45 _ _ ?_ a hF
      refine we_seq fun K46 hK46 => ?_
      refine we_seq fun K47 hK47 => ?_
      refine we_region [(0, 0), (1, 0), (2, 0), (3, 0), (4, 0)] rfl ?_
      refine ge_batch [0, 1, 2, 3, 4] (ans := [.val (.int .i64 e4.A)]) (vs := [(158, .bool (decide (e4.A < (l0.length : Int)))), (157, .int .i64 (l0.length : Int)), (156, .slice A0 l0.length c0), (155, .int .i64 e4.A), (154, .pointer (some ⟨b6, 1, none⟩))]) (l := [.loaded ⟨b6, 1, none⟩ (.int .i64 e4.A)]) (by kernel_rfl) ⟨hS161.cell 0 rfl rfl, trivial⟩ ?_
      refine ge_nil fun a hF => hK47 _ _ ?_ a hF
      by_cases hc17 : e4.A < (l0.length : Int)
      · rw [if_pos hc17] at h
        refine we_known (t := 158) (b := decide (e4.A < (l0.length : Int))) (v := true) (by kernel_rfl) (decide_eq_true hc17) ?_
        refine we_true (by kernel_rfl) ?_
        refine we_draws (by kernel_rfl) [(0, 0), (1, 0), (2, 0), (3, 0), (4, 0), (5, 0), (6, 0), (7, 0), (8, 0), (9, 0)] (by kernel_rfl) ?_
        have hS162 := hS161.drew
        refine ge_batch [0, 1, 2, 3, 4, 5, 6] (ans := [.val ((.slice Z14 m13.length cz14)), .val (.int .i64 e4.A)]) (vs := [(165, .int .i64 e4.A), (164, .pointer (some ⟨b6, 1, none⟩)), (163, (.slice Z14 m13.length cz14)), (162, .pointer (some ⟨b5, 2, none⟩)), (161, .pointer (some ⟨b5, 2, none⟩)), (160, .pointer (some ⟨b5, 0, none⟩)), (159, .pointer (some ⟨b5, 0, none⟩))]) (l := [.loaded ⟨b5, 2, none⟩ ((.slice Z14 m13.length cz14)), .loaded ⟨b6, 1, none⟩ (.int .i64 e4.A)]) (by kernel_rfl) ⟨hS162.cell 1 rfl rfl, hS162.cell 0 rfl rfl, trivial⟩ ?_
        by_cases hc18 : 0 ≤ e4.A
        · rw [if_pos hc18] at h
          rcases hx11 : m13[(e4.A).toNat]? with _ | e5
          · rw [hx11] at h; cases h
          rw [hx11] at h
          simp only [] at h
          refine ge_index (d := 166) (ty := 0) (t := 24) (el := 3) (sz := 1) (m := m13.length) (c := cz14) (x := (.tmp 163)) (y := (.tmp 165)) (A := Z14) (k' := .i64) (j := e4.A) (jn := ((e4.A).toNat)) (b0 := blkOf Z14) (o0 := offOf Z14) (by kernel_rfl) (by kernel_rfl) (by kernel_rfl) (by kernel_rfl) (by kernel_rfl) ((hS162.rdAt 5 rfl).eqSome (pos_of_get hx11)) (Int.toNat_of_nonneg hc18).symm (lt_of_get hx11) ?_
          refine ge_batch [8, 9] (ans := [.val (.int .i64 e5)]) (vs := [(14, .int .i64 e5), (167, .int .i64 e5)]) (l := [.loaded ⟨blkOf Z14, offOf Z14 + ((e4.A).toNat) * 1, none⟩ (.int .i64 e5)]) (by kernel_rfl) ⟨RdL.cell (j := 0) (hS162.rdAt 5 rfl) hx11 rfl, trivial⟩ ?_
          refine ge_nil fun a hF => hK46 _ _ ?_ a hF
          refine we_seq fun K48 hK48 => ?_
          refine we_region [(0, 0), (1, 0), (2, 0), (3, 0), (4, 0), (5, 0), (6, 0), (7, 0), (8, 0), (9, 0), (10, 0), (11, 0), (12, 0), (13, 0), (14, 0), (15, 0), (16, 0), (17, 0), (18, 0), (19, 0), (20, 0), (21, 0), (22, 0)] rfl ?_
          refine ge_batch [0, 1, 2, 3, 4] (ans := [.val (.int .i64 e4.A)]) (vs := [(172, .bool (decide (e4.A ≤ (i3 : Int)))), (171, .bool (decide (e4.A ≤ (i3 : Int)))), (170, .int .i64 (i3 : Int)), (169, .int .i64 e4.A), (168, .pointer (some ⟨b6, 1, none⟩))]) (l := [.loaded ⟨b6, 1, none⟩ (.int .i64 e4.A)]) (by kernel_rfl) ⟨hS162.cell 0 rfl rfl, trivial⟩ ?_
          by_cases hc19 : e4.A ≤ (i3 : Int)
          · rw [if_pos hc19] at h
            refine ge_known (t := 172) (b := decide (e4.A ≤ (i3 : Int))) (c := true) (by kernel_rfl) (decide_eq_true hc19) ?_
            refine ge_batch [5, 6, 7, 8, 9, 10, 11, 12, 13, 14, 15, 16, 17, 18, 19, 20, 21, 22] (ans := []) (vs := [(190, .bool true), (189, undef), (188, undef), (187, undef), (186, undef), (185, undef), (184, undef), (183, undef), (182, undef), (181, undef), (180, undef), (179, .bool true), (178, .bool true), (177, undef), (176, undef), (175, undef), (174, undef), (173, undef)]) (l := []) (by kernel_rfl) trivial ?_
            refine ge_nil fun a hF => hK48 _ _ ?_ a hF
            refine we_true (by kernel_rfl) ?_
            refine we_seq fun K49 hK49 => ?_
            refine we_region [(0, 0), (1, 0), (2, 1), (3, 0), (4, 0), (5, 2), (6, 2)] rfl ?_
            refine ge_batch [0, 1] (ans := []) (vs := [(192, .int .i64 (i3 : Int)), (191, .func (.func 82) #[] #[])]) (l := []) (by kernel_rfl) trivial ?_
            refine ge_call (d := some 193) (f := 82) (args := #[.int .i64 7, .int .i64 (i3 : Int)]) (by kernel_rfl) (mach_Look_1_ok 7 (i3 : Int) _ _ rfl) ?_
            rintro _ w43 ⟨v19, m16, rfl, hS163⟩
            refine ⟨_, rfl, hS163.below, ?_⟩
            have hS164 := hS162.call hS163
            refine ge_batch [3, 4] (ans := []) (vs := [(195, .agg #[.int .i64 (((mach_Look_1.f 7 (i3 : Int)).2).Code), .int .i64 (((mach_Look_1.f 7 (i3 : Int)).2).At)]), (194, .agg #[v19, .map m16])]) (l := []) (by kernel_rfl) trivial ?_
            obtain ⟨Z15, cz15, rfl⟩ := hS164.open 0 rfl
            have hS165 := hS164.bring 5 rfl
            refine ge_set (b := b1) (j := 0) (cs := #[.slice none 0 0, .map none]) (t := 115) (vs := [(.slice Z15 (((mach_Look_1.f 7 (i3 : Int)).1).In).length cz15), .map m16]) hS165 (by kernel_rfl) rfl rfl fun w44 hS166 => ?_
            have hS167 : St w0 w44 [Own.blk b1 (.cells #[(.slice Z15 (((mach_Look_1.f 7 (i3 : Int)).1).In).length cz15), .map m16] 115 (0, 0)), Own.of (.slice Z15 (((mach_Look_1.f 7 (i3 : Int)).1).In).length cz15) 3 (((mach_Look_1.f 7 (i3 : Int)).1).In), Own.mapv (κ := Int) (ν := Int) m16 (((mach_Look_1.f 7 (i3 : Int)).1).Close), Own.blk b6 (.cells #[.int .i64 e4.Op, .int .i64 e4.A, .int .i64 e4.B] 29 (0, 0)), Own.blk b5 (.cells #[.slice A0 l0.length c0, (.slice Z11 m12.length cz11), (.slice Z14 m13.length cz14), .map (some b4)] 143 (0, 0)), Own.blk b2 (.cells #[.int .i64 0, .int .i64 0] 40 (0, 0)), Own.of (.slice Z11 m12.length cz11) 3 m12, Own.of (.slice Z14 m13.length cz14) 3 m13, Own.map (κ := Int) (ν := Int) b4 mp3] := hS166
            have hS168 := hS167.bring 5 rfl
            refine ge_set (b := b2) (j := 0) (cs := #[.int .i64 0, .int .i64 0]) (t := 40) (vs := [.int .i64 (((mach_Look_1.f 7 (i3 : Int)).2).Code), .int .i64 (((mach_Look_1.f 7 (i3 : Int)).2).At)]) hS168 (by kernel_rfl) rfl rfl fun w45 hS169 => ?_
            have hS170 : St w0 w45 [Own.blk b2 (.cells #[.int .i64 (((mach_Look_1.f 7 (i3 : Int)).2).Code), .int .i64 (((mach_Look_1.f 7 (i3 : Int)).2).At)] 40 (0, 0)), Own.blk b1 (.cells #[(.slice Z15 (((mach_Look_1.f 7 (i3 : Int)).1).In).length cz15), .map m16] 115 (0, 0)), Own.of (.slice Z15 (((mach_Look_1.f 7 (i3 : Int)).1).In).length cz15) 3 (((mach_Look_1.f 7 (i3 : Int)).1).In), Own.mapv (κ := Int) (ν := Int) m16 (((mach_Look_1.f 7 (i3 : Int)).1).Close), Own.blk b6 (.cells #[.int .i64 e4.Op, .int .i64 e4.A, .int .i64 e4.B] 29 (0, 0)), Own.blk b5 (.cells #[.slice A0 l0.length c0, (.slice Z11 m12.length cz11), (.slice Z14 m13.length cz14), .map (some b4)] 143 (0, 0)), Own.of (.slice Z11 m12.length cz11) 3 m12, Own.of (.slice Z14 m13.length cz14) 3 m13, Own.map (κ := Int) (ν := Int) b4 mp3] := hS169
            refine ge_nil fun a hF => hK49 _ _ ?_ a hF
            have hS171 := hS170.bring 3 rfl
            have hS172 := hS171.bring 3 rfl
            have hS173 := hS172.takeN 2
            obtain rfl := Option.some.inj h
            exact we_ret fun a hF => hQ _ _ _ (Outs.out nofun (Exits.on ⟨rfl, (post_ret (rs := [.cell 2 115, .cell 3 40]) (ans := [.val ((.slice Z15 (((mach_Look_1.f 7 (i3 : Int)).1).In).length cz15)), .val (.map m16), .val (.int .i64 (((mach_Look_1.f 7 (i3 : Int)).2).Code)), .val (.int .i64 (((mach_Look_1.f 7 (i3 : Int)).2).At))]) (vs := [.agg #[(.slice Z15 (((mach_Look_1.f 7 (i3 : Int)).1).In).length cz15), .map m16], .agg #[.int .i64 (((mach_Look_1.f 7 (i3 : Int)).2).Code), .int .i64 (((mach_Look_1.f 7 (i3 : Int)).2).At)]]) (l := [.loaded ⟨b1, 0, none⟩ ((.slice Z15 (((mach_Look_1.f 7 (i3 : Int)).1).In).length cz15)), .loaded ⟨b1, 1, none⟩ (.map m16), .loaded ⟨b2, 0, none⟩ (.int .i64 (((mach_Look_1.f 7 (i3 : Int)).2).Code)), .loaded ⟨b2, 1, none⟩ (.int .i64 (((mach_Look_1.f 7 (i3 : Int)).2).At))]) rfl (by kernel_rfl) ⟨hS170.cell 1 rfl rfl, hS170.cell 1 rfl rfl, hS170.cell 0 rfl rfl, hS170.cell 0 rfl rfl, trivial⟩ ⟨(.slice Z15 (((mach_Look_1.f 7 (i3 : Int)).1).In).length cz15), m16, rfl, hS173⟩) a hF⟩))
          · rw [if_neg hc19] at h
            refine ge_known (t := 172) (b := decide (e4.A ≤ (i3 : Int))) (c := false) (by kernel_rfl) (decide_eq_false hc19) ?_
            refine ge_batch [5, 6, 7, 8, 9, 10, 11] (ans := [.val (.int .i64 e4.A)]) (vs := [(179, .bool (decide (e4.A > (l0.length : Int)))), (178, .bool (decide (e4.A > (l0.length : Int)))), (177, .bool (decide (e4.A > (l0.length : Int)))), (176, .int .i64 (l0.length : Int)), (175, .slice A0 l0.length c0), (174, .int .i64 e4.A), (173, .pointer (some ⟨b6, 1, none⟩))]) (l := [.loaded ⟨b6, 1, none⟩ (.int .i64 e4.A)]) (by kernel_rfl) ⟨hS162.cell 0 rfl rfl, trivial⟩ ?_
            by_cases hc20 : e4.A > (l0.length : Int)
            · rw [if_pos hc20] at h
              refine ge_known (t := 179) (b := decide (e4.A > (l0.length : Int))) (c := true) (by kernel_rfl) (decide_eq_true hc20) ?_
              refine ge_batch [12, 13, 14, 15, 16, 17, 18, 19, 20, 21, 22] (ans := []) (vs := [(190, .bool true), (189, undef), (188, undef), (187, undef), (186, undef), (185, undef), (184, undef), (183, undef), (182, undef), (181, undef), (180, undef)]) (l := []) (by kernel_rfl) trivial ?_
              refine ge_nil fun a hF => hK48 _ _ ?_ a hF
              refine we_true (by kernel_rfl) ?_
              refine we_seq fun K50 hK50 => ?_
              refine we_region [(0, 0), (1, 0), (2, 1), (3, 0), (4, 0), (5, 2), (6, 2)] rfl ?_
              refine ge_batch [0, 1] (ans := []) (vs := [(192, .int .i64 (i3 : Int)), (191, .func (.func 82) #[] #[])]) (l := []) (by kernel_rfl) trivial ?_
              refine ge_call (d := some 193) (f := 82) (args := #[.int .i64 7, .int .i64 (i3 : Int)]) (by kernel_rfl) (mach_Look_1_ok 7 (i3 : Int) _ _ rfl) ?_
              rintro _ w46 ⟨v20, m17, rfl, hS174⟩
              refine ⟨_, rfl, hS174.below, ?_⟩
              have hS175 := hS162.call hS174
              refine ge_batch [3, 4] (ans := []) (vs := [(195, .agg #[.int .i64 (((mach_Look_1.f 7 (i3 : Int)).2).Code), .int .i64 (((mach_Look_1.f 7 (i3 : Int)).2).At)]), (194, .agg #[v20, .map m17])]) (l := []) (by kernel_rfl) trivial ?_
              obtain ⟨Z16, cz16, rfl⟩ := hS175.open 0 rfl
              have hS176 := hS175.bring 5 rfl
              refine ge_set (b := b1) (j := 0) (cs := #[.slice none 0 0, .map none]) (t := 115) (vs := [(.slice Z16 (((mach_Look_1.f 7 (i3 : Int)).1).In).length cz16), .map m17]) hS176 (by kernel_rfl) rfl rfl fun w47 hS177 => ?_
              have hS178 : St w0 w47 [Own.blk b1 (.cells #[(.slice Z16 (((mach_Look_1.f 7 (i3 : Int)).1).In).length cz16), .map m17] 115 (0, 0)), Own.of (.slice Z16 (((mach_Look_1.f 7 (i3 : Int)).1).In).length cz16) 3 (((mach_Look_1.f 7 (i3 : Int)).1).In), Own.mapv (κ := Int) (ν := Int) m17 (((mach_Look_1.f 7 (i3 : Int)).1).Close), Own.blk b6 (.cells #[.int .i64 e4.Op, .int .i64 e4.A, .int .i64 e4.B] 29 (0, 0)), Own.blk b5 (.cells #[.slice A0 l0.length c0, (.slice Z11 m12.length cz11), (.slice Z14 m13.length cz14), .map (some b4)] 143 (0, 0)), Own.blk b2 (.cells #[.int .i64 0, .int .i64 0] 40 (0, 0)), Own.of (.slice Z11 m12.length cz11) 3 m12, Own.of (.slice Z14 m13.length cz14) 3 m13, Own.map (κ := Int) (ν := Int) b4 mp3] := hS177
              have hS179 := hS178.bring 5 rfl
              refine ge_set (b := b2) (j := 0) (cs := #[.int .i64 0, .int .i64 0]) (t := 40) (vs := [.int .i64 (((mach_Look_1.f 7 (i3 : Int)).2).Code), .int .i64 (((mach_Look_1.f 7 (i3 : Int)).2).At)]) hS179 (by kernel_rfl) rfl rfl fun w48 hS180 => ?_
              have hS181 : St w0 w48 [Own.blk b2 (.cells #[.int .i64 (((mach_Look_1.f 7 (i3 : Int)).2).Code), .int .i64 (((mach_Look_1.f 7 (i3 : Int)).2).At)] 40 (0, 0)), Own.blk b1 (.cells #[(.slice Z16 (((mach_Look_1.f 7 (i3 : Int)).1).In).length cz16), .map m17] 115 (0, 0)), Own.of (.slice Z16 (((mach_Look_1.f 7 (i3 : Int)).1).In).length cz16) 3 (((mach_Look_1.f 7 (i3 : Int)).1).In), Own.mapv (κ := Int) (ν := Int) m17 (((mach_Look_1.f 7 (i3 : Int)).1).Close), Own.blk b6 (.cells #[.int .i64 e4.Op, .int .i64 e4.A, .int .i64 e4.B] 29 (0, 0)), Own.blk b5 (.cells #[.slice A0 l0.length c0, (.slice Z11 m12.length cz11), (.slice Z14 m13.length cz14), .map (some b4)] 143 (0, 0)), Own.of (.slice Z11 m12.length cz11) 3 m12, Own.of (.slice Z14 m13.length cz14) 3 m13, Own.map (κ := Int) (ν := Int) b4 mp3] := hS180
              refine ge_nil fun a hF => hK50 _ _ ?_ a hF
              have hS182 := hS181.bring 3 rfl
              have hS183 := hS182.bring 3 rfl
              have hS184 := hS183.takeN 2
              obtain rfl := Option.some.inj h
              exact we_ret fun a hF => hQ _ _ _ (Outs.out nofun (Exits.on ⟨rfl, (post_ret (rs := [.cell 2 115, .cell 3 40]) (ans := [.val ((.slice Z16 (((mach_Look_1.f 7 (i3 : Int)).1).In).length cz16)), .val (.map m17), .val (.int .i64 (((mach_Look_1.f 7 (i3 : Int)).2).Code)), .val (.int .i64 (((mach_Look_1.f 7 (i3 : Int)).2).At))]) (vs := [.agg #[(.slice Z16 (((mach_Look_1.f 7 (i3 : Int)).1).In).length cz16), .map m17], .agg #[.int .i64 (((mach_Look_1.f 7 (i3 : Int)).2).Code), .int .i64 (((mach_Look_1.f 7 (i3 : Int)).2).At)]]) (l := [.loaded ⟨b1, 0, none⟩ ((.slice Z16 (((mach_Look_1.f 7 (i3 : Int)).1).In).length cz16)), .loaded ⟨b1, 1, none⟩ (.map m17), .loaded ⟨b2, 0, none⟩ (.int .i64 (((mach_Look_1.f 7 (i3 : Int)).2).Code)), .loaded ⟨b2, 1, none⟩ (.int .i64 (((mach_Look_1.f 7 (i3 : Int)).2).At))]) rfl (by kernel_rfl) ⟨hS181.cell 1 rfl rfl, hS181.cell 1 rfl rfl, hS181.cell 0 rfl rfl, hS181.cell 0 rfl rfl, trivial⟩ ⟨(.slice Z16 (((mach_Look_1.f 7 (i3 : Int)).1).In).length cz16), m17, rfl, hS184⟩) a hF⟩))
            · rw [if_neg hc20] at h
              refine ge_known (t := 179) (b := decide (e4.A > (l0.length : Int))) (c := false) (by kernel_rfl) (decide_eq_false hc20) ?_
              refine ge_batch [12, 13, 14, 15, 16, 17, 18] (ans := [.val ((.slice Z14 m13.length cz14))]) (vs := [(186, .int .i64 (i3 : Int)), (185, (.slice Z14 m13.length cz14)), (184, .pointer (some ⟨b5, 2, none⟩)), (183, .pointer (some ⟨b5, 2, none⟩)), (182, .pointer (some ⟨b5, 0, none⟩)), (181, .pointer (some ⟨b5, 0, none⟩)), (180, .int .i64 e5)]) (l := [.loaded ⟨b5, 2, none⟩ ((.slice Z14 m13.length cz14))]) (by kernel_rfl) ⟨hS162.cell 1 rfl rfl, trivial⟩ ?_
              rcases hx12 : m13[i3]? with _ | e6
              · rw [hx12] at h; cases h
              rw [hx12] at h
              simp only [] at h
              refine ge_index (d := 187) (ty := 0) (t := 24) (el := 3) (sz := 1) (m := m13.length) (c := cz14) (x := (.tmp 185)) (y := (.tmp 186)) (A := Z14) (k' := .i64) (j := (i3 : Int)) (jn := i3) (b0 := blkOf Z14) (o0 := offOf Z14) (by kernel_rfl) (by kernel_rfl) (by kernel_rfl) (by kernel_rfl) (by kernel_rfl) ((hS162.rdAt 5 rfl).eqSome (pos_of_get hx12)) rfl (lt_of_get hx12) ?_
              refine ge_batch [20, 21, 22] (ans := [.val (.int .i64 e6)]) (vs := [(190, .bool (e5 != e6)), (189, .bool (e5 != e6)), (188, .int .i64 e6)]) (l := [.loaded ⟨blkOf Z14, offOf Z14 + i3 * 1, none⟩ (.int .i64 e6)]) (by kernel_rfl) ⟨RdL.cell (j := 0) (hS162.rdAt 5 rfl) hx12 rfl, trivial⟩ ?_
              refine ge_nil fun a hF => hK48 _ _ ?_ a hF
              by_cases hc21 : e5 = e6
              · rw [if_pos hc21] at h
                refine we_known (t := 190) (b := (e5 != e6)) (v := false) (by kernel_rfl) (bne_eq_false_iff_eq.2 hc21) ?_
                refine we_false (by kernel_rfl) ?_
                refine we_skip fun a hF => hK41 _ _ ?_ a hF
                refine we_region [(0, 0), (1, 0)] rfl ?_
                refine ge_addn (d := 196) (ty := 3) (x := (.tmp 141)) (y := (.const (.int .i64 1))) (t := 3) (t2 := 3) (k := .i64) (m := i3) (by kernel_rfl) (by kernel_rfl) (by kernel_rfl) (by have h0 := hR0.small; omega) ?_
                refine ge_batch [1] (ans := []) (vs := [(141, .int .i64 ((i3 + 1 : Nat) : Int))]) (l := []) (by kernel_rfl) trivial ?_
                have hS185 := hS162.bring 6 rfl
                have hS186 := hS185.bring 6 rfl
                have hS187 := hS186.bring 6 rfl
                have hS188 := hS187.bring 6 rfl
                have hS189 := hS188.bring 6 rfl
                have hS190 := hS189.bring 6 rfl
                have hS191 := hS190.takeN 6
                obtain rfl := Option.some.inj h
                exact ge_nil fun a hF => hQ _ _ _ (Outs.again ⟨hS191, hF.weaken ⟨by kernel_rfl, by kernel_rfl, by kernel_rfl, by kernel_rfl, by kernel_rfl, by kernel_rfl, by kernel_rfl, by kernel_rfl, trivial⟩⟩)
              · rw [if_neg hc21] at h
                refine we_known (t := 190) (b := (e5 != e6)) (v := true) (by kernel_rfl) (bne_iff_ne.2 hc21) ?_
                refine we_true (by kernel_rfl) ?_
                refine we_seq fun K51 hK51 => ?_
                refine we_region [(0, 0), (1, 0), (2, 1), (3, 0), (4, 0), (5, 2), (6, 2)] rfl ?_
                refine ge_batch [0, 1] (ans := []) (vs := [(192, .int .i64 (i3 : Int)), (191, .func (.func 82) #[] #[])]) (l := []) (by kernel_rfl) trivial ?_
                refine ge_call (d := some 193) (f := 82) (args := #[.int .i64 7, .int .i64 (i3 : Int)]) (by kernel_rfl) (mach_Look_1_ok 7 (i3 : Int) _ _ rfl) ?_
                rintro _ w49 ⟨v21, m18, rfl, hS192⟩
                refine ⟨_, rfl, hS192.below, ?_⟩
                have hS193 := hS162.call hS192
                refine ge_batch [3, 4] (ans := []) (vs := [(195, .agg #[.int .i64 (((mach_Look_1.f 7 (i3 : Int)).2).Code), .int .i64 (((mach_Look_1.f 7 (i3 : Int)).2).At)]), (194, .agg #[v21, .map m18])]) (l := []) (by kernel_rfl) trivial ?_
                obtain ⟨Z17, cz17, rfl⟩ := hS193.open 0 rfl
                have hS194 := hS193.bring 5 rfl
                refine ge_set (b := b1) (j := 0) (cs := #[.slice none 0 0, .map none]) (t := 115) (vs := [(.slice Z17 (((mach_Look_1.f 7 (i3 : Int)).1).In).length cz17), .map m18]) hS194 (by kernel_rfl) rfl rfl fun w50 hS195 => ?_
                have hS196 : St w0 w50 [Own.blk b1 (.cells #[(.slice Z17 (((mach_Look_1.f 7 (i3 : Int)).1).In).length cz17), .map m18] 115 (0, 0)), Own.of (.slice Z17 (((mach_Look_1.f 7 (i3 : Int)).1).In).length cz17) 3 (((mach_Look_1.f 7 (i3 : Int)).1).In), Own.mapv (κ := Int) (ν := Int) m18 (((mach_Look_1.f 7 (i3 : Int)).1).Close), Own.blk b6 (.cells #[.int .i64 e4.Op, .int .i64 e4.A, .int .i64 e4.B] 29 (0, 0)), Own.blk b5 (.cells #[.slice A0 l0.length c0, (.slice Z11 m12.length cz11), (.slice Z14 m13.length cz14), .map (some b4)] 143 (0, 0)), Own.blk b2 (.cells #[.int .i64 0, .int .i64 0] 40 (0, 0)), Own.of (.slice Z11 m12.length cz11) 3 m12, Own.of (.slice Z14 m13.length cz14) 3 m13, Own.map (κ := Int) (ν := Int) b4 mp3] := hS195
                have hS197 := hS196.bring 5 rfl
                refine ge_set (b := b2) (j := 0) (cs := #[.int .i64 0, .int .i64 0]) (t := 40) (vs := [.int .i64 (((mach_Look_1.f 7 (i3 : Int)).2).Code), .int .i64 (((mach_Look_1.f 7 (i3 : Int)).2).At)]) hS197 (by kernel_rfl) rfl rfl fun w51 hS198 => ?_
                have hS199 : St w0 w51 [Own.blk b2 (.cells #[.int .i64 (((mach_Look_1.f 7 (i3 : Int)).2).Code), .int .i64 (((mach_Look_1.f 7 (i3 : Int)).2).At)] 40 (0, 0)), Own.blk b1 (.cells #[(.slice Z17 (((mach_Look_1.f 7 (i3 : Int)).1).In).length cz17), .map m18] 115 (0, 0)), Own.of (.slice Z17 (((mach_Look_1.f 7 (i3 : Int)).1).In).length cz17) 3 (((mach_Look_1.f 7 (i3 : Int)).1).In), Own.mapv (κ := Int) (ν := Int) m18 (((mach_Look_1.f 7 (i3 : Int)).1).Close), Own.blk b6 (.cells #[.int .i64 e4.Op, .int .i64 e4.A, .int .i64 e4.B] 29 (0, 0)), Own.blk b5 (.cells #[.slice A0 l0.length c0, (.slice Z11 m12.length cz11), (.slice Z14 m13.length cz14), .map (some b4)] 143 (0, 0)), Own.of (.slice Z11 m12.length cz11) 3 m12, Own.of (.slice Z14 m13.length cz14) 3 m13, Own.map (κ := Int) (ν := Int) b4 mp3] := hS198
                refine ge_nil fun a hF => hK51 _ _ ?_ a hF
                have hS200 := hS199.bring 3 rfl
                have hS201 := hS200.bring 3 rfl
                have hS202 := hS201.takeN 2
                obtain rfl := Option.some.inj h
                exact we_ret fun a hF => hQ _ _ _ (Outs.out nofun (Exits.on ⟨rfl, (post_ret (rs := [.cell 2 115, .cell 3 40]) (ans := [.val ((.slice Z17 (((mach_Look_1.f 7 (i3 : Int)).1).In).length cz17)), .val (.map m18), .val (.int .i64 (((mach_Look_1.f 7 (i3 : Int)).2).Code)), .val (.int .i64 (((mach_Look_1.f 7 (i3 : Int)).2).At))]) (vs := [.agg #[(.slice Z17 (((mach_Look_1.f 7 (i3 : Int)).1).In).length cz17), .map m18], .agg #[.int .i64 (((mach_Look_1.f 7 (i3 : Int)).2).Code), .int .i64 (((mach_Look_1.f 7 (i3 : Int)).2).At)]]) (l := [.loaded ⟨b1, 0, none⟩ ((.slice Z17 (((mach_Look_1.f 7 (i3 : Int)).1).In).length cz17)), .loaded ⟨b1, 1, none⟩ (.map m18), .loaded ⟨b2, 0, none⟩ (.int .i64 (((mach_Look_1.f 7 (i3 : Int)).2).Code)), .loaded ⟨b2, 1, none⟩ (.int .i64 (((mach_Look_1.f 7 (i3 : Int)).2).At))]) rfl (by kernel_rfl) ⟨hS199.cell 1 rfl rfl, hS199.cell 1 rfl rfl, hS199.cell 0 rfl rfl, hS199.cell 0 rfl rfl, trivial⟩ ⟨(.slice Z17 (((mach_Look_1.f 7 (i3 : Int)).1).In).length cz17), m18, rfl, hS202⟩) a hF⟩))
        · rw [if_neg hc18] at h
          cases h
      · rw [if_neg hc17] at h
        refine we_known (t := 158) (b := decide (e4.A < (l0.length : Int))) (v := false) (by kernel_rfl) (decide_eq_false hc17) ?_
        refine we_false (by kernel_rfl) ?_
        refine we_skip fun a hF => hK46 _ _ ?_ a hF
        refine we_seq fun K52 hK52 => ?_
        refine we_region [(0, 0), (1, 0), (2, 0), (3, 0), (4, 0), (5, 0), (6, 0), (7, 0), (8, 0), (9, 0), (10, 0), (11, 0), (12, 0), (13, 0), (14, 0), (15, 0), (16, 0), (17, 0), (18, 0), (19, 0), (20, 0), (21, 0), (22, 0)] rfl ?_
        refine ge_batch [0, 1, 2, 3, 4] (ans := [.val (.int .i64 e4.A)]) (vs := [(172, .bool (decide (e4.A ≤ (i3 : Int)))), (171, .bool (decide (e4.A ≤ (i3 : Int)))), (170, .int .i64 (i3 : Int)), (169, .int .i64 e4.A), (168, .pointer (some ⟨b6, 1, none⟩))]) (l := [.loaded ⟨b6, 1, none⟩ (.int .i64 e4.A)]) (by kernel_rfl) ⟨hS161.cell 0 rfl rfl, trivial⟩ ?_
        by_cases hc22 : e4.A ≤ (i3 : Int)
        · rw [if_pos hc22] at h
          refine ge_known (t := 172) (b := decide (e4.A ≤ (i3 : Int))) (c := true) (by kernel_rfl) (decide_eq_true hc22) ?_
          refine ge_batch [5, 6, 7, 8, 9, 10, 11, 12, 13, 14, 15, 16, 17, 18, 19, 20, 21, 22] (ans := []) (vs := [(190, .bool true), (189, undef), (188, undef), (187, undef), (186, undef), (185, undef), (184, undef), (183, undef), (182, undef), (181, undef), (180, undef), (179, .bool true), (178, .bool true), (177, undef), (176, undef), (175, undef), (174, undef), (173, undef)]) (l := []) (by kernel_rfl) trivial ?_
          refine ge_nil fun a hF => hK52 _ _ ?_ a hF
          refine we_true (by kernel_rfl) ?_
          refine we_seq fun K53 hK53 => ?_
          refine we_region [(0, 0), (1, 0), (2, 1), (3, 0), (4, 0), (5, 2), (6, 2)] rfl ?_
          refine ge_batch [0, 1] (ans := []) (vs := [(192, .int .i64 (i3 : Int)), (191, .func (.func 82) #[] #[])]) (l := []) (by kernel_rfl) trivial ?_
          refine ge_call (d := some 193) (f := 82) (args := #[.int .i64 7, .int .i64 (i3 : Int)]) (by kernel_rfl) (mach_Look_1_ok 7 (i3 : Int) _ _ rfl) ?_
          rintro _ w52 ⟨v22, m19, rfl, hS203⟩
          refine ⟨_, rfl, hS203.below, ?_⟩
          have hS204 := hS161.call hS203
          refine ge_batch [3, 4] (ans := []) (vs := [(195, .agg #[.int .i64 (((mach_Look_1.f 7 (i3 : Int)).2).Code), .int .i64 (((mach_Look_1.f 7 (i3 : Int)).2).At)]), (194, .agg #[v22, .map m19])]) (l := []) (by kernel_rfl) trivial ?_
          obtain ⟨Z18, cz18, rfl⟩ := hS204.open 0 rfl
          have hS205 := hS204.bring 5 rfl
          refine ge_set (b := b1) (j := 0) (cs := #[.slice none 0 0, .map none]) (t := 115) (vs := [(.slice Z18 (((mach_Look_1.f 7 (i3 : Int)).1).In).length cz18), .map m19]) hS205 (by kernel_rfl) rfl rfl fun w53 hS206 => ?_
          have hS207 : St w0 w53 [Own.blk b1 (.cells #[(.slice Z18 (((mach_Look_1.f 7 (i3 : Int)).1).In).length cz18), .map m19] 115 (0, 0)), Own.of (.slice Z18 (((mach_Look_1.f 7 (i3 : Int)).1).In).length cz18) 3 (((mach_Look_1.f 7 (i3 : Int)).1).In), Own.mapv (κ := Int) (ν := Int) m19 (((mach_Look_1.f 7 (i3 : Int)).1).Close), Own.blk b6 (.cells #[.int .i64 e4.Op, .int .i64 e4.A, .int .i64 e4.B] 29 (0, 0)), Own.blk b5 (.cells #[.slice A0 l0.length c0, (.slice Z11 m12.length cz11), (.slice Z14 m13.length cz14), .map (some b4)] 143 (0, 0)), Own.blk b2 (.cells #[.int .i64 0, .int .i64 0] 40 (0, 0)), Own.of (.slice Z11 m12.length cz11) 3 m12, Own.of (.slice Z14 m13.length cz14) 3 m13, Own.map (κ := Int) (ν := Int) b4 mp3] := hS206
          have hS208 := hS207.bring 5 rfl
          refine ge_set (b := b2) (j := 0) (cs := #[.int .i64 0, .int .i64 0]) (t := 40) (vs := [.int .i64 (((mach_Look_1.f 7 (i3 : Int)).2).Code), .int .i64 (((mach_Look_1.f 7 (i3 : Int)).2).At)]) hS208 (by kernel_rfl) rfl rfl fun w54 hS209 => ?_
          have hS210 : St w0 w54 [Own.blk b2 (.cells #[.int .i64 (((mach_Look_1.f 7 (i3 : Int)).2).Code), .int .i64 (((mach_Look_1.f 7 (i3 : Int)).2).At)] 40 (0, 0)), Own.blk b1 (.cells #[(.slice Z18 (((mach_Look_1.f 7 (i3 : Int)).1).In).length cz18), .map m19] 115 (0, 0)), Own.of (.slice Z18 (((mach_Look_1.f 7 (i3 : Int)).1).In).length cz18) 3 (((mach_Look_1.f 7 (i3 : Int)).1).In), Own.mapv (κ := Int) (ν := Int) m19 (((mach_Look_1.f 7 (i3 : Int)).1).Close), Own.blk b6 (.cells #[.int .i64 e4.Op, .int .i64 e4.A, .int .i64 e4.B] 29 (0, 0)), Own.blk b5 (.cells #[.slice A0 l0.length c0, (.slice Z11 m12.length cz11), (.slice Z14 m13.length cz14), .map (some b4)] 143 (0, 0)), Own.of (.slice Z11 m12.length cz11) 3 m12, Own.of (.slice Z14 m13.length cz14) 3 m13, Own.map (κ := Int) (ν := Int) b4 mp3] := hS209
          refine ge_nil fun a hF => hK53 _ _ ?_ a hF
          have hS211 := hS210.bring 3 rfl
          have hS212 := hS211.bring 3 rfl
          have hS213 := hS212.takeN 2
          obtain rfl := Option.some.inj h
          exact we_ret fun a hF => hQ _ _ _ (Outs.out nofun (Exits.on ⟨rfl, (post_ret (rs := [.cell 2 115, .cell 3 40]) (ans := [.val ((.slice Z18 (((mach_Look_1.f 7 (i3 : Int)).1).In).length cz18)), .val (.map m19), .val (.int .i64 (((mach_Look_1.f 7 (i3 : Int)).2).Code)), .val (.int .i64 (((mach_Look_1.f 7 (i3 : Int)).2).At))]) (vs := [.agg #[(.slice Z18 (((mach_Look_1.f 7 (i3 : Int)).1).In).length cz18), .map m19], .agg #[.int .i64 (((mach_Look_1.f 7 (i3 : Int)).2).Code), .int .i64 (((mach_Look_1.f 7 (i3 : Int)).2).At)]]) (l := [.loaded ⟨b1, 0, none⟩ ((.slice Z18 (((mach_Look_1.f 7 (i3 : Int)).1).In).length cz18)), .loaded ⟨b1, 1, none⟩ (.map m19), .loaded ⟨b2, 0, none⟩ (.int .i64 (((mach_Look_1.f 7 (i3 : Int)).2).Code)), .loaded ⟨b2, 1, none⟩ (.int .i64 (((mach_Look_1.f 7 (i3 : Int)).2).At))]) rfl (by kernel_rfl) ⟨hS210.cell 1 rfl rfl, hS210.cell 1 rfl rfl, hS210.cell 0 rfl rfl, hS210.cell 0 rfl rfl, trivial⟩ ⟨(.slice Z18 (((mach_Look_1.f 7 (i3 : Int)).1).In).length cz18), m19, rfl, hS213⟩) a hF⟩))
        · rw [if_neg hc22] at h
          refine ge_known (t := 172) (b := decide (e4.A ≤ (i3 : Int))) (c := false) (by kernel_rfl) (decide_eq_false hc22) ?_
          refine ge_batch [5, 6, 7, 8, 9, 10, 11] (ans := [.val (.int .i64 e4.A)]) (vs := [(179, .bool (decide (e4.A > (l0.length : Int)))), (178, .bool (decide (e4.A > (l0.length : Int)))), (177, .bool (decide (e4.A > (l0.length : Int)))), (176, .int .i64 (l0.length : Int)), (175, .slice A0 l0.length c0), (174, .int .i64 e4.A), (173, .pointer (some ⟨b6, 1, none⟩))]) (l := [.loaded ⟨b6, 1, none⟩ (.int .i64 e4.A)]) (by kernel_rfl) ⟨hS161.cell 0 rfl rfl, trivial⟩ ?_
          by_cases hc23 : e4.A > (l0.length : Int)
          · rw [if_pos hc23] at h
            refine ge_known (t := 179) (b := decide (e4.A > (l0.length : Int))) (c := true) (by kernel_rfl) (decide_eq_true hc23) ?_
            refine ge_batch [12, 13, 14, 15, 16, 17, 18, 19, 20, 21, 22] (ans := []) (vs := [(190, .bool true), (189, undef), (188, undef), (187, undef), (186, undef), (185, undef), (184, undef), (183, undef), (182, undef), (181, undef), (180, undef)]) (l := []) (by kernel_rfl) trivial ?_
            refine ge_nil fun a hF => hK52 _ _ ?_ a hF
            refine we_true (by kernel_rfl) ?_
            refine we_seq fun K54 hK54 => ?_
            refine we_region [(0, 0), (1, 0), (2, 1), (3, 0), (4, 0), (5, 2), (6, 2)] rfl ?_
            refine ge_batch [0, 1] (ans := []) (vs := [(192, .int .i64 (i3 : Int)), (191, .func (.func 82) #[] #[])]) (l := []) (by kernel_rfl) trivial ?_
            refine ge_call (d := some 193) (f := 82) (args := #[.int .i64 7, .int .i64 (i3 : Int)]) (by kernel_rfl) (mach_Look_1_ok 7 (i3 : Int) _ _ rfl) ?_
            rintro _ w55 ⟨v23, m20, rfl, hS214⟩
            refine ⟨_, rfl, hS214.below, ?_⟩
            have hS215 := hS161.call hS214
            refine ge_batch [3, 4] (ans := []) (vs := [(195, .agg #[.int .i64 (((mach_Look_1.f 7 (i3 : Int)).2).Code), .int .i64 (((mach_Look_1.f 7 (i3 : Int)).2).At)]), (194, .agg #[v23, .map m20])]) (l := []) (by kernel_rfl) trivial ?_
            obtain ⟨Z19, cz19, rfl⟩ := hS215.open 0 rfl
            have hS216 := hS215.bring 5 rfl
            refine ge_set (b := b1) (j := 0) (cs := #[.slice none 0 0, .map none]) (t := 115) (vs := [(.slice Z19 (((mach_Look_1.f 7 (i3 : Int)).1).In).length cz19), .map m20]) hS216 (by kernel_rfl) rfl rfl fun w56 hS217 => ?_
            have hS218 : St w0 w56 [Own.blk b1 (.cells #[(.slice Z19 (((mach_Look_1.f 7 (i3 : Int)).1).In).length cz19), .map m20] 115 (0, 0)), Own.of (.slice Z19 (((mach_Look_1.f 7 (i3 : Int)).1).In).length cz19) 3 (((mach_Look_1.f 7 (i3 : Int)).1).In), Own.mapv (κ := Int) (ν := Int) m20 (((mach_Look_1.f 7 (i3 : Int)).1).Close), Own.blk b6 (.cells #[.int .i64 e4.Op, .int .i64 e4.A, .int .i64 e4.B] 29 (0, 0)), Own.blk b5 (.cells #[.slice A0 l0.length c0, (.slice Z11 m12.length cz11), (.slice Z14 m13.length cz14), .map (some b4)] 143 (0, 0)), Own.blk b2 (.cells #[.int .i64 0, .int .i64 0] 40 (0, 0)), Own.of (.slice Z11 m12.length cz11) 3 m12, Own.of (.slice Z14 m13.length cz14) 3 m13, Own.map (κ := Int) (ν := Int) b4 mp3] := hS217
            have hS219 := hS218.bring 5 rfl
            refine ge_set (b := b2) (j := 0) (cs := #[.int .i64 0, .int .i64 0]) (t := 40) (vs := [.int .i64 (((mach_Look_1.f 7 (i3 : Int)).2).Code), .int .i64 (((mach_Look_1.f 7 (i3 : Int)).2).At)]) hS219 (by kernel_rfl) rfl rfl fun w57 hS220 => ?_
            have hS221 : St w0 w57 [Own.blk b2 (.cells #[.int .i64 (((mach_Look_1.f 7 (i3 : Int)).2).Code), .int .i64 (((mach_Look_1.f 7 (i3 : Int)).2).At)] 40 (0, 0)), Own.blk b1 (.cells #[(.slice Z19 (((mach_Look_1.f 7 (i3 : Int)).1).In).length cz19), .map m20] 115 (0, 0)), Own.of (.slice Z19 (((mach_Look_1.f 7 (i3 : Int)).1).In).length cz19) 3 (((mach_Look_1.f 7 (i3 : Int)).1).In), Own.mapv (κ := Int) (ν := Int) m20 (((mach_Look_1.f 7 (i3 : Int)).1).Close), Own.blk b6 (.cells #[.int .i64 e4.Op, .int .i64 e4.A, .int .i64 e4.B] 29 (0, 0)), Own.blk b5 (.cells #[.slice A0 l0.length c0, (.slice Z11 m12.length cz11), (.slice Z14 m13.length cz14), .map (some b4)] 143 (0, 0)), Own.of (.slice Z11 m12.length cz11) 3 m12, Own.of (.slice Z14 m13.length cz14) 3 m13, Own.map (κ := Int) (ν := Int) b4 mp3] := hS220
            refine ge_nil fun a hF => hK54 _ _ ?_ a hF
            have hS222 := hS221.bring 3 rfl
            have hS223 := hS222.bring 3 rfl
            have hS224 := hS223.takeN 2
            obtain rfl := Option.some.inj h
            exact we_ret fun a hF => hQ _ _ _ (Outs.out nofun (Exits.on ⟨rfl, (post_ret (rs := [.cell 2 115, .cell 3 40]) (ans := [.val ((.slice Z19 (((mach_Look_1.f 7 (i3 : Int)).1).In).length cz19)), .val (.map m20), .val (.int .i64 (((mach_Look_1.f 7 (i3 : Int)).2).Code)), .val (.int .i64 (((mach_Look_1.f 7 (i3 : Int)).2).At))]) (vs := [.agg #[(.slice Z19 (((mach_Look_1.f 7 (i3 : Int)).1).In).length cz19), .map m20], .agg #[.int .i64 (((mach_Look_1.f 7 (i3 : Int)).2).Code), .int .i64 (((mach_Look_1.f 7 (i3 : Int)).2).At)]]) (l := [.loaded ⟨b1, 0, none⟩ ((.slice Z19 (((mach_Look_1.f 7 (i3 : Int)).1).In).length cz19)), .loaded ⟨b1, 1, none⟩ (.map m20), .loaded ⟨b2, 0, none⟩ (.int .i64 (((mach_Look_1.f 7 (i3 : Int)).2).Code)), .loaded ⟨b2, 1, none⟩ (.int .i64 (((mach_Look_1.f 7 (i3 : Int)).2).At))]) rfl (by kernel_rfl) ⟨hS221.cell 1 rfl rfl, hS221.cell 1 rfl rfl, hS221.cell 0 rfl rfl, hS221.cell 0 rfl rfl, trivial⟩ ⟨(.slice Z19 (((mach_Look_1.f 7 (i3 : Int)).1).In).length cz19), m20, rfl, hS224⟩) a hF⟩))
          · rw [if_neg hc23] at h
            refine ge_known (t := 179) (b := decide (e4.A > (l0.length : Int))) (c := false) (by kernel_rfl) (decide_eq_false hc23) ?_
            refine ge_batch [12, 13, 14, 15, 16, 17, 18] (ans := [.val ((.slice Z14 m13.length cz14))]) (vs := [(186, .int .i64 (i3 : Int)), (185, (.slice Z14 m13.length cz14)), (184, .pointer (some ⟨b5, 2, none⟩)), (183, .pointer (some ⟨b5, 2, none⟩)), (182, .pointer (some ⟨b5, 0, none⟩)), (181, .pointer (some ⟨b5, 0, none⟩)), (180, .int .i64 (-1))]) (l := [.loaded ⟨b5, 2, none⟩ ((.slice Z14 m13.length cz14))]) (by kernel_rfl) ⟨hS161.cell 1 rfl rfl, trivial⟩ ?_
            rcases hx13 : m13[i3]? with _ | e7
            · rw [hx13] at h; cases h
            rw [hx13] at h
            simp only [] at h
            refine ge_index (d := 187) (ty := 0) (t := 24) (el := 3) (sz := 1) (m := m13.length) (c := cz14) (x := (.tmp 185)) (y := (.tmp 186)) (A := Z14) (k' := .i64) (j := (i3 : Int)) (jn := i3) (b0 := blkOf Z14) (o0 := offOf Z14) (by kernel_rfl) (by kernel_rfl) (by kernel_rfl) (by kernel_rfl) (by kernel_rfl) ((hS161.rdAt 5 rfl).eqSome (pos_of_get hx13)) rfl (lt_of_get hx13) ?_
            refine ge_batch [20, 21, 22] (ans := [.val (.int .i64 e7)]) (vs := [(190, .bool ((-1) != e7)), (189, .bool ((-1) != e7)), (188, .int .i64 e7)]) (l := [.loaded ⟨blkOf Z14, offOf Z14 + i3 * 1, none⟩ (.int .i64 e7)]) (by kernel_rfl) ⟨RdL.cell (j := 0) (hS161.rdAt 5 rfl) hx13 rfl, trivial⟩ ?_
            refine ge_nil fun a hF => hK52 _ _ ?_ a hF
            by_cases hc24 : (-1) = e7
            · rw [if_pos hc24] at h
              refine we_known (t := 190) (b := ((-1) != e7)) (v := false) (by kernel_rfl) (bne_eq_false_iff_eq.2 hc24) ?_
              refine we_false (by kernel_rfl) ?_
              refine we_skip fun a hF => hK41 _ _ ?_ a hF
              refine we_region [(0, 0), (1, 0)] rfl ?_
              refine ge_addn (d := 196) (ty := 3) (x := (.tmp 141)) (y := (.const (.int .i64 1))) (t := 3) (t2 := 3) (k := .i64) (m := i3) (by kernel_rfl) (by kernel_rfl) (by kernel_rfl) (by have h0 := hR0.small; omega) ?_
              refine ge_batch [1] (ans := []) (vs := [(141, .int .i64 ((i3 + 1 : Nat) : Int))]) (l := []) (by kernel_rfl) trivial ?_
              have hS225 := hS161.bring 6 rfl
              have hS226 := hS225.bring 6 rfl
              have hS227 := hS226.bring 6 rfl
              have hS228 := hS227.bring 6 rfl
              have hS229 := hS228.bring 6 rfl
              have hS230 := hS229.bring 6 rfl
              have hS231 := hS230.takeN 6
              obtain rfl := Option.some.inj h
              exact ge_nil fun a hF => hQ _ _ _ (Outs.again ⟨hS231, hF.weaken ⟨by kernel_rfl, by kernel_rfl, by kernel_rfl, by kernel_rfl, by kernel_rfl, by kernel_rfl, by kernel_rfl, by kernel_rfl, trivial⟩⟩)
            · rw [if_neg hc24] at h
              refine we_known (t := 190) (b := ((-1) != e7)) (v := true) (by kernel_rfl) (bne_iff_ne.2 hc24) ?_
              refine we_true (by kernel_rfl) ?_
              refine we_seq fun K55 hK55 => ?_
              refine we_region [(0, 0), (1, 0), (2, 1), (3, 0), (4, 0), (5, 2), (6, 2)] rfl ?_
              refine ge_batch [0, 1] (ans := []) (vs := [(192, .int .i64 (i3 : Int)), (191, .func (.func 82) #[] #[])]) (l := []) (by kernel_rfl) trivial ?_
              refine ge_call (d := some 193) (f := 82) (args := #[.int .i64 7, .int .i64 (i3 : Int)]) (by kernel_rfl) (mach_Look_1_ok 7 (i3 : Int) _ _ rfl) ?_
              rintro _ w58 ⟨v24, m21, rfl, hS232⟩
              refine ⟨_, rfl, hS232.below, ?_⟩
              have hS233 := hS161.call hS232
              refine ge_batch [3, 4] (ans := []) (vs := [(195, .agg #[.int .i64 (((mach_Look_1.f 7 (i3 : Int)).2).Code), .int .i64 (((mach_Look_1.f 7 (i3 : Int)).2).At)]), (194, .agg #[v24, .map m21])]) (l := []) (by kernel_rfl) trivial ?_
              obtain ⟨Z20, cz20, rfl⟩ := hS233.open 0 rfl
              have hS234 := hS233.bring 5 rfl
              refine ge_set (b := b1) (j := 0) (cs := #[.slice none 0 0, .map none]) (t := 115) (vs := [(.slice Z20 (((mach_Look_1.f 7 (i3 : Int)).1).In).length cz20), .map m21]) hS234 (by kernel_rfl) rfl rfl fun w59 hS235 => ?_
              have hS236 : St w0 w59 [Own.blk b1 (.cells #[(.slice Z20 (((mach_Look_1.f 7 (i3 : Int)).1).In).length cz20), .map m21] 115 (0, 0)), Own.of (.slice Z20 (((mach_Look_1.f 7 (i3 : Int)).1).In).length cz20) 3 (((mach_Look_1.f 7 (i3 : Int)).1).In), Own.mapv (κ := Int) (ν := Int) m21 (((mach_Look_1.f 7 (i3 : Int)).1).Close), Own.blk b6 (.cells #[.int .i64 e4.Op, .int .i64 e4.A, .int .i64 e4.B] 29 (0, 0)), Own.blk b5 (.cells #[.slice A0 l0.length c0, (.slice Z11 m12.length cz11), (.slice Z14 m13.length cz14), .map (some b4)] 143 (0, 0)), Own.blk b2 (.cells #[.int .i64 0, .int .i64 0] 40 (0, 0)), Own.of (.slice Z11 m12.length cz11) 3 m12, Own.of (.slice Z14 m13.length cz14) 3 m13, Own.map (κ := Int) (ν := Int) b4 mp3] := hS235
              have hS237 := hS236.bring 5 rfl
              refine ge_set (b := b2) (j := 0) (cs := #[.int .i64 0, .int .i64 0]) (t := 40) (vs := [.int .i64 (((mach_Look_1.f 7 (i3 : Int)).2).Code), .int .i64 (((mach_Look_1.f 7 (i3 : Int)).2).At)]) hS237 (by kernel_rfl) rfl rfl fun w60 hS238 => ?_
              have hS239 : St w0 w60 [Own.blk b2 (.cells #[.int .i64 (((mach_Look_1.f 7 (i3 : Int)).2).Code), .int .i64 (((mach_Look_1.f 7 (i3 : Int)).2).At)] 40 (0, 0)), Own.blk b1 (.cells #[(.slice Z20 (((mach_Look_1.f 7 (i3 : Int)).1).In).length cz20), .map m21] 115 (0, 0)), Own.of (.slice Z20 (((mach_Look_1.f 7 (i3 : Int)).1).In).length cz20) 3 (((mach_Look_1.f 7 (i3 : Int)).1).In), Own.mapv (κ := Int) (ν := Int) m21 (((mach_Look_1.f 7 (i3 : Int)).1).Close), Own.blk b6 (.cells #[.int .i64 e4.Op, .int .i64 e4.A, .int .i64 e4.B] 29 (0, 0)), Own.blk b5 (.cells #[.slice A0 l0.length c0, (.slice Z11 m12.length cz11), (.slice Z14 m13.length cz14), .map (some b4)] 143 (0, 0)), Own.of (.slice Z11 m12.length cz11) 3 m12, Own.of (.slice Z14 m13.length cz14) 3 m13, Own.map (κ := Int) (ν := Int) b4 mp3] := hS238
              refine ge_nil fun a hF => hK55 _ _ ?_ a hF
              have hS240 := hS239.bring 3 rfl
              have hS241 := hS240.bring 3 rfl
              have hS242 := hS241.takeN 2
              obtain rfl := Option.some.inj h
              exact we_ret fun a hF => hQ _ _ _ (Outs.out nofun (Exits.on ⟨rfl, (post_ret (rs := [.cell 2 115, .cell 3 40]) (ans := [.val ((.slice Z20 (((mach_Look_1.f 7 (i3 : Int)).1).In).length cz20)), .val (.map m21), .val (.int .i64 (((mach_Look_1.f 7 (i3 : Int)).2).Code)), .val (.int .i64 (((mach_Look_1.f 7 (i3 : Int)).2).At))]) (vs := [.agg #[(.slice Z20 (((mach_Look_1.f 7 (i3 : Int)).1).In).length cz20), .map m21], .agg #[.int .i64 (((mach_Look_1.f 7 (i3 : Int)).2).Code), .int .i64 (((mach_Look_1.f 7 (i3 : Int)).2).At)]]) (l := [.loaded ⟨b1, 0, none⟩ ((.slice Z20 (((mach_Look_1.f 7 (i3 : Int)).1).In).length cz20)), .loaded ⟨b1, 1, none⟩ (.map m21), .loaded ⟨b2, 0, none⟩ (.int .i64 (((mach_Look_1.f 7 (i3 : Int)).2).Code)), .loaded ⟨b2, 1, none⟩ (.int .i64 (((mach_Look_1.f 7 (i3 : Int)).2).At))]) rfl (by kernel_rfl) ⟨hS239.cell 1 rfl rfl, hS239.cell 1 rfl rfl, hS239.cell 0 rfl rfl, hS239.cell 0 rfl rfl, trivial⟩ ⟨(.slice Z20 (((mach_Look_1.f 7 (i3 : Int)).1).In).length cz20), m21, rfl, hS242⟩) a hF⟩))
    · rw [if_neg hc16] at h
      refine ge_known (t := 149) (b := (e4.Op != 11)) (c := true) (by kernel_rfl) (bne_iff_ne.2 hc16) ?_
      refine ge_batch [4, 5, 6, 7] (ans := [.val (.int .i64 e4.Op)]) (vs := [(153, .bool (e4.Op != 12)), (152, .bool (e4.Op != 12)), (151, .int .i64 e4.Op), (150, .pointer (some ⟨b6, 0, none⟩))]) (l := [.loaded ⟨b6, 0, none⟩ (.int .i64 e4.Op)]) (by kernel_rfl) ⟨hS161.cell 0 rfl rfl, trivial⟩ ?_
      refine ge_nil fun a hF => hK44 _ _ ?_ a hF
      by_cases hc25 : e4.Op = 12
      · rw [if_pos hc25] at h
        refine we_known (t := 153) (b := (e4.Op != 12)) (v := false) (by kernel_rfl) (bne_eq_false_iff_eq.2 hc25) ?_
        refine we_false (by kernel_rfl) ?_
        refine we_skip fun a hF => hK43 _ _ ?_ a hF
        refine we_seq fun K56 hK56 => ?_
        refine we_region [(0, 0)] rfl ?_
        refine ge_batch [0] (ans := []) (vs := [(14, .int .i64 (-1))]) (l := []) (by kernel_rfl) trivial ?_
        refine ge_nil fun a hF => hK56 _ _ ?_ a hF
        refine we_seq fun K57 hK57 => ?_
        refine we_seq fun K58 hK58 => ?_
        refine we_region [(0, 0), (1, 0), (2, 0), (3, 0), (4, 0)] rfl ?_
        refine ge_batch [0, 1, 2, 3, 4] (ans := [.val (.int .i64 e4.A)]) (vs := [(158, .bool (decide (e4.A < (l0.length : Int)))), (157, .int .i64 (l0.length : Int)), (156, .slice A0 l0.length c0), (155, .int .i64 e4.A), (154, .pointer (some ⟨b6, 1, none⟩))]) (l := [.loaded ⟨b6, 1, none⟩ (.int .i64 e4.A)]) (by kernel_rfl) ⟨hS161.cell 0 rfl rfl, trivial⟩ ?_
        refine ge_nil fun a hF => hK58 _ _ ?_ a hF
        by_cases hc26 : e4.A < (l0.length : Int)
        · rw [if_pos hc26] at h
          refine we_known (t := 158) (b := decide (e4.A < (l0.length : Int))) (v := true) (by kernel_rfl) (decide_eq_true hc26) ?_
          refine we_true (by kernel_rfl) ?_
          refine we_draws (by kernel_rfl) [(0, 0), (1, 0), (2, 0), (3, 0), (4, 0), (5, 0), (6, 0), (7, 0), (8, 0), (9, 0)] (by kernel_rfl) ?_
          have hS243 := hS161.drew
          refine ge_batch [0, 1, 2, 3, 4, 5, 6] (ans := [.val ((.slice Z14 m13.length cz14)), .val (.int .i64 e4.A)]) (vs := [(165, .int .i64 e4.A), (164, .pointer (some ⟨b6, 1, none⟩)), (163, (.slice Z14 m13.length cz14)), (162, .pointer (some ⟨b5, 2, none⟩)), (161, .pointer (some ⟨b5, 2, none⟩)), (160, .pointer (some ⟨b5, 0, none⟩)), (159, .pointer (some ⟨b5, 0, none⟩))]) (l := [.loaded ⟨b5, 2, none⟩ ((.slice Z14 m13.length cz14)), .loaded ⟨b6, 1, none⟩ (.int .i64 e4.A)]) (by kernel_rfl) ⟨hS243.cell 1 rfl rfl, hS243.cell 0 rfl rfl, trivial⟩ ?_
          by_cases hc27 : 0 ≤ e4.A
          · rw [if_pos hc27] at h
            rcases hx14 : m13[(e4.A).toNat]? with _ | e8
            · rw [hx14] at h; cases h
            rw [hx14] at h
            simp only [] at h
            refine ge_index (d := 166) (ty := 0) (t := 24) (el := 3) (sz := 1) (m := m13.length) (c := cz14) (x := (.tmp 163)) (y := (.tmp 165)) (A := Z14) (k' := .i64) (j := e4.A) (jn := ((e4.A).toNat)) (b0 := blkOf Z14) (o0 := offOf Z14) (by kernel_rfl) (by kernel_rfl) (by kernel_rfl) (by kernel_rfl) (by kernel_rfl) ((hS243.rdAt 5 rfl).eqSome (pos_of_get hx14)) (Int.toNat_of_nonneg hc27).symm (lt_of_get hx14) ?_
            refine ge_batch [8, 9] (ans := [.val (.int .i64 e8)]) (vs := [(14, .int .i64 e8), (167, .int .i64 e8)]) (l := [.loaded ⟨blkOf Z14, offOf Z14 + ((e4.A).toNat) * 1, none⟩ (.int .i64 e8)]) (by kernel_rfl) ⟨RdL.cell (j := 0) (hS243.rdAt 5 rfl) hx14 rfl, trivial⟩ ?_
            refine ge_nil fun a hF => hK57 _ _ ?_ a hF
            refine we_seq fun K59 hK59 => ?_
            refine we_region [(0, 0), (1, 0), (2, 0), (3, 0), (4, 0), (5, 0), (6, 0), (7, 0), (8, 0), (9, 0), (10, 0), (11, 0), (12, 0), (13, 0), (14, 0), (15, 0), (16, 0), (17, 0), (18, 0), (19, 0), (20, 0), (21, 0), (22, 0)] rfl ?_
            refine ge_batch [0, 1, 2, 3, 4] (ans := [.val (.int .i64 e4.A)]) (vs := [(172, .bool (decide (e4.A ≤ (i3 : Int)))), (171, .bool (decide (e4.A ≤ (i3 : Int)))), (170, .int .i64 (i3 : Int)), (169, .int .i64 e4.A), (168, .pointer (some ⟨b6, 1, none⟩))]) (l := [.loaded ⟨b6, 1, none⟩ (.int .i64 e4.A)]) (by kernel_rfl) ⟨hS243.cell 0 rfl rfl, trivial⟩ ?_
            by_cases hc28 : e4.A ≤ (i3 : Int)
            · rw [if_pos hc28] at h
              refine ge_known (t := 172) (b := decide (e4.A ≤ (i3 : Int))) (c := true) (by kernel_rfl) (decide_eq_true hc28) ?_
              refine ge_batch [5, 6, 7, 8, 9, 10, 11, 12, 13, 14, 15, 16, 17, 18, 19, 20, 21, 22] (ans := []) (vs := [(190, .bool true), (189, undef), (188, undef), (187, undef), (186, undef), (185, undef), (184, undef), (183, undef), (182, undef), (181, undef), (180, undef), (179, .bool true), (178, .bool true), (177, undef), (176, undef), (175, undef), (174, undef), (173, undef)]) (l := []) (by kernel_rfl) trivial ?_
              refine ge_nil fun a hF => hK59 _ _ ?_ a hF
              refine we_true (by kernel_rfl) ?_
              refine we_seq fun K60 hK60 => ?_
              refine we_region [(0, 0), (1, 0), (2, 1), (3, 0), (4, 0), (5, 2), (6, 2)] rfl ?_
              refine ge_batch [0, 1] (ans := []) (vs := [(192, .int .i64 (i3 : Int)), (191, .func (.func 82) #[] #[])]) (l := []) (by kernel_rfl) trivial ?_
              refine ge_call (d := some 193) (f := 82) (args := #[.int .i64 7, .int .i64 (i3 : Int)]) (by kernel_rfl) (mach_Look_1_ok 7 (i3 : Int) _ _ rfl) ?_
              rintro _ w61 ⟨v25, m22, rfl, hS244⟩
              refine ⟨_, rfl, hS244.below, ?_⟩
              have hS245 := hS243.call hS244
              refine ge_batch [3, 4] (ans := []) (vs := [(195, .agg #[.int .i64 (((mach_Look_1.f 7 (i3 : Int)).2).Code), .int .i64 (((mach_Look_1.f 7 (i3 : Int)).2).At)]), (194, .agg #[v25, .map m22])]) (l := []) (by kernel_rfl) trivial ?_
              obtain ⟨Z21, cz21, rfl⟩ := hS245.open 0 rfl
              have hS246 := hS245.bring 5 rfl
              refine ge_set (b := b1) (j := 0) (cs := #[.slice none 0 0, .map none]) (t := 115) (vs := [(.slice Z21 (((mach_Look_1.f 7 (i3 : Int)).1).In).length cz21), .map m22]) hS246 (by kernel_rfl) rfl rfl fun w62 hS247 => ?_
              have hS248 : St w0 w62 [Own.blk b1 (.cells #[(.slice Z21 (((mach_Look_1.f 7 (i3 : Int)).1).In).length cz21), .map m22] 115 (0, 0)), Own.of (.slice Z21 (((mach_Look_1.f 7 (i3 : Int)).1).In).length cz21) 3 (((mach_Look_1.f 7 (i3 : Int)).1).In), Own.mapv (κ := Int) (ν := Int) m22 (((mach_Look_1.f 7 (i3 : Int)).1).Close), Own.blk b6 (.cells #[.int .i64 e4.Op, .int .i64 e4.A, .int .i64 e4.B] 29 (0, 0)), Own.blk b5 (.cells #[.slice A0 l0.length c0, (.slice Z11 m12.length cz11), (.slice Z14 m13.length cz14), .map (some b4)] 143 (0, 0)), Own.blk b2 (.cells #[.int .i64 0, .int .i64 0] 40 (0, 0)), Own.of (.slice Z11 m12.length cz11) 3 m12, Own.of (.slice Z14 m13.length cz14) 3 m13, Own.map (κ := Int) (ν := Int) b4 mp3] := hS247
              have hS249 := hS248.bring 5 rfl
              refine ge_set (b := b2) (j := 0) (cs := #[.int .i64 0, .int .i64 0]) (t := 40) (vs := [.int .i64 (((mach_Look_1.f 7 (i3 : Int)).2).Code), .int .i64 (((mach_Look_1.f 7 (i3 : Int)).2).At)]) hS249 (by kernel_rfl) rfl rfl fun w63 hS250 => ?_
              have hS251 : St w0 w63 [Own.blk b2 (.cells #[.int .i64 (((mach_Look_1.f 7 (i3 : Int)).2).Code), .int .i64 (((mach_Look_1.f 7 (i3 : Int)).2).At)] 40 (0, 0)), Own.blk b1 (.cells #[(.slice Z21 (((mach_Look_1.f 7 (i3 : Int)).1).In).length cz21), .map m22] 115 (0, 0)), Own.of (.slice Z21 (((mach_Look_1.f 7 (i3 : Int)).1).In).length cz21) 3 (((mach_Look_1.f 7 (i3 : Int)).1).In), Own.mapv (κ := Int) (ν := Int) m22 (((mach_Look_1.f 7 (i3 : Int)).1).Close), Own.blk b6 (.cells #[.int .i64 e4.Op, .int .i64 e4.A, .int .i64 e4.B] 29 (0, 0)), Own.blk b5 (.cells #[.slice A0 l0.length c0, (.slice Z11 m12.length cz11), (.slice Z14 m13.length cz14), .map (some b4)] 143 (0, 0)), Own.of (.slice Z11 m12.length cz11) 3 m12, Own.of (.slice Z14 m13.length cz14) 3 m13, Own.map (κ := Int) (ν := Int) b4 mp3] := hS250
              refine ge_nil fun a hF => hK60 _ _ ?_ a hF
              have hS252 := hS251.bring 3 rfl
              have hS253 := hS252.bring 3 rfl
              have hS254 := hS253.takeN 2
              obtain rfl := Option.some.inj h
              exact we_ret fun a hF => hQ _ _ _ (Outs.out nofun (Exits.on ⟨rfl, (post_ret (rs := [.cell 2 115, .cell 3 40]) (ans := [.val ((.slice Z21 (((mach_Look_1.f 7 (i3 : Int)).1).In).length cz21)), .val (.map m22), .val (.int .i64 (((mach_Look_1.f 7 (i3 : Int)).2).Code)), .val (.int .i64 (((mach_Look_1.f 7 (i3 : Int)).2).At))]) (vs := [.agg #[(.slice Z21 (((mach_Look_1.f 7 (i3 : Int)).1).In).length cz21), .map m22], .agg #[.int .i64 (((mach_Look_1.f 7 (i3 : Int)).2).Code), .int .i64 (((mach_Look_1.f 7 (i3 : Int)).2).At)]]) (l := [.loaded ⟨b1, 0, none⟩ ((.slice Z21 (((mach_Look_1.f 7 (i3 : Int)).1).In).length cz21)), .loaded ⟨b1, 1, none⟩ (.map m22), .loaded ⟨b2, 0, none⟩ (.int .i64 (((mach_Look_1.f 7 (i3 : Int)).2).Code)), .loaded ⟨b2, 1, none⟩ (.int .i64 (((mach_Look_1.f 7 (i3 : Int)).2).At))]) rfl (by kernel_rfl) ⟨hS251.cell 1 rfl rfl, hS251.cell 1 rfl rfl, hS251.cell 0 rfl rfl, hS251.cell 0 rfl rfl, trivial⟩ ⟨(.slice Z21 (((mach_Look_1.f 7 (i3 : Int)).1).In).length cz21), m22, rfl, hS254⟩) a hF⟩))
            · rw [if_neg hc28] at h
              refine ge_known (t := 172) (b := decide (e4.A ≤ (i3 : Int))) (c := false) (by kernel_rfl) (decide_eq_false hc28) ?_
              refine ge_batch [5, 6, 7, 8, 9, 10, 11] (ans := [.val (.int .i64 e4.A)]) (vs := [(179, .bool (decide (e4.A > (l0.length : Int)))), (178, .bool (decide (e4.A > (l0.length : Int)))), (177, .bool (decide (e4.A > (l0.length : Int)))), (176, .int .i64 (l0.length : Int)), (175, .slice A0 l0.length c0), (174, .int .i64 e4.A), (173, .pointer (some ⟨b6, 1, none⟩))]) (l := [.loaded ⟨b6, 1, none⟩ (.int .i64 e4.A)]) (by kernel_rfl) ⟨hS243.cell 0 rfl rfl, trivial⟩ ?_
              by_cases hc29 : e4.A > (l0.length : Int)
              · rw [if_pos hc29] at h
                refine ge_known (t := 179) (b := decide (e4.A > (l0.length : Int))) (c := true) (by kernel_rfl) (decide_eq_true hc29) ?_
                refine ge_batch [12, 13, 14, 15, 16, 17, 18, 19, 20, 21, 22] (ans := []) (vs := [(190, .bool true), (189, undef), (188, undef), (187, undef), (186, undef), (185, undef), (184, undef), (183, undef), (182, undef), (181, undef), (180, undef)]) (l := []) (by kernel_rfl) trivial ?_
                refine ge_nil fun a hF => hK59 _ _ ?_ a hF
                refine we_true (by kernel_rfl) ?_
                refine we_seq fun K61 hK61 => ?_
                refine we_region [(0, 0), (1, 0), (2, 1), (3, 0), (4, 0), (5, 2), (6, 2)] rfl ?_
                refine ge_batch [0, 1] (ans := []) (vs := [(192, .int .i64 (i3 : Int)), (191, .func (.func 82) #[] #[])]) (l := []) (by kernel_rfl) trivial ?_
                refine ge_call (d := some 193) (f := 82) (args := #[.int .i64 7, .int .i64 (i3 : Int)]) (by kernel_rfl) (mach_Look_1_ok 7 (i3 : Int) _ _ rfl) ?_
                rintro _ w64 ⟨v26, m23, rfl, hS255⟩
                refine ⟨_, rfl, hS255.below, ?_⟩
                have hS256 := hS243.call hS255
                refine ge_batch [3, 4] (ans := []) (vs := [(195, .agg #[.int .i64 (((mach_Look_1.f 7 (i3 : Int)).2).Code), .int .i64 (((mach_Look_1.f 7 (i3 : Int)).2).At)]), (194, .agg #[v26, .map m23])]) (l := []) (by kernel_rfl) trivial ?_
                obtain ⟨Z22, cz22, rfl⟩ := hS256.open 0 rfl
                have hS257 := hS256.bring 5 rfl
                refine ge_set (b := b1) (j := 0) (cs := #[.slice none 0 0, .map none]) (t := 115) (vs := [(.slice Z22 (((mach_Look_1.f 7 (i3 : Int)).1).In).length cz22), .map m23]) hS257 (by kernel_rfl) rfl rfl fun w65 hS258 => ?_
                have hS259 : St w0 w65 [Own.blk b1 (.cells #[(.slice Z22 (((mach_Look_1.f 7 (i3 : Int)).1).In).length cz22), .map m23] 115 (0, 0)), Own.of (.slice Z22 (((mach_Look_1.f 7 (i3 : Int)).1).In).length cz22) 3 (((mach_Look_1.f 7 (i3 : Int)).1).In), Own.mapv (κ := Int) (ν := Int) m23 (((mach_Look_1.f 7 (i3 : Int)).1).Close), Own.blk b6 (.cells #[.int .i64 e4.Op, .int .i64 e4.A, .int .i64 e4.B] 29 (0, 0)), Own.blk b5 (.cells #[.slice A0 l0.length c0, (.slice Z11 m12.length cz11), (.slice Z14 m13.length cz14), .map (some b4)] 143 (0, 0)), Own.blk b2 (.cells #[.int .i64 0, .int .i64 0] 40 (0, 0)), Own.of (.slice Z11 m12.length cz11) 3 m12, Own.of (.slice Z14 m13.length cz14) 3 m13, Own.map (κ := Int) (ν := Int) b4 mp3] := hS258
                have hS260 := hS259.bring 5 rfl
                refine ge_set (b := b2) (j := 0) (cs := #[.int .i64 0, .int .i64 0]) (t := 40) (vs := [.int .i64 (((mach_Look_1.f 7 (i3 : Int)).2).Code), .int .i64 (((mach_Look_1.f 7 (i3 : Int)).2).At)]) hS260 (by kernel_rfl) rfl rfl fun w66 hS261 => ?_
                have hS262 : St w0 w66 [Own.blk b2 (.cells #[.int .i64 (((mach_Look_1.f 7 (i3 : Int)).2).Code), .int .i64 (((mach_Look_1.f 7 (i3 : Int)).2).At)] 40 (0, 0)), Own.blk b1 (.cells #[(.slice Z22 (((mach_Look_1.f 7 (i3 : Int)).1).In).length cz22), .map m23] 115 (0, 0)), Own.of (.slice Z22 (((mach_Look_1.f 7 (i3 : Int)).1).In).length cz22) 3 (((mach_Look_1.f 7 (i3 : Int)).1).In), Own.mapv (κ := Int) (ν := Int) m23 (((mach_Look_1.f 7 (i3 : Int)).1).Close), Own.blk b6 (.cells #[.int .i64 e4.Op, .int .i64 e4.A, .int .i64 e4.B] 29 (0, 0)), Own.blk b5 (.cells #[.slice A0 l0.length c0, (.slice Z11 m12.length cz11), (.slice Z14 m13.length cz14), .map (some b4)] 143 (0, 0)), Own.of (.slice Z11 m12.length cz11) 3 m12, Own.of (.slice Z14 m13.length cz14) 3 m13, Own.map (κ := Int) (ν := Int) b4 mp3] := hS261
                refine ge_nil fun a hF => hK61 _ _ ?_ a hF
                have hS263 := hS262.bring 3 rfl
                have hS264 := hS263.bring 3 rfl
                have hS265 := hS264.takeN 2
                obtain rfl := Option.some.inj h
                exact we_ret fun a hF => hQ _ _ _ (Outs.out nofun (Exits.on ⟨rfl, (post_ret (rs := [.cell 2 115, .cell 3 40]) (ans := [.val ((.slice Z22 (((mach_Look_1.f 7 (i3 : Int)).1).In).length cz22)), .val (.map m23), .val (.int .i64 (((mach_Look_1.f 7 (i3 : Int)).2).Code)), .val (.int .i64 (((mach_Look_1.f 7 (i3 : Int)).2).At))]) (vs := [.agg #[(.slice Z22 (((mach_Look_1.f 7 (i3 : Int)).1).In).length cz22), .map m23], .agg #[.int .i64 (((mach_Look_1.f 7 (i3 : Int)).2).Code), .int .i64 (((mach_Look_1.f 7 (i3 : Int)).2).At)]]) (l := [.loaded ⟨b1, 0, none⟩ ((.slice Z22 (((mach_Look_1.f 7 (i3 : Int)).1).In).length cz22)), .loaded ⟨b1, 1, none⟩ (.map m23), .loaded ⟨b2, 0, none⟩ (.int .i64 (((mach_Look_1.f 7 (i3 : Int)).2).Code)), .loaded ⟨b2, 1, none⟩ (.int .i64 (((mach_Look_1.f 7 (i3 : Int)).2).At))]) rfl (by kernel_rfl) ⟨hS262.cell 1 rfl rfl, hS262.cell 1 rfl rfl, hS262.cell 0 rfl rfl, hS262.cell 0 rfl rfl, trivial⟩ ⟨(.slice Z22 (((mach_Look_1.f 7 (i3 : Int)).1).In).length cz22), m23, rfl, hS265⟩) a hF⟩))
              · rw [if_neg hc29] at h
                refine ge_known (t := 179) (b := decide (e4.A > (l0.length : Int))) (c := false) (by kernel_rfl) (decide_eq_false hc29) ?_
                refine ge_batch [12, 13, 14, 15, 16, 17, 18] (ans := [.val ((.slice Z14 m13.length cz14))]) (vs := [(186, .int .i64 (i3 : Int)), (185, (.slice Z14 m13.length cz14)), (184, .pointer (some ⟨b5, 2, none⟩)), (183, .pointer (some ⟨b5, 2, none⟩)), (182, .pointer (some ⟨b5, 0, none⟩)), (181, .pointer (some ⟨b5, 0, none⟩)), (180, .int .i64 e8)]) (l := [.loaded ⟨b5, 2, none⟩ ((.slice Z14 m13.length cz14))]) (by kernel_rfl) ⟨hS243.cell 1 rfl rfl, trivial⟩ ?_
                rcases hx15 : m13[i3]? with _ | e9
                · rw [hx15] at h; cases h
                rw [hx15] at h
                simp only [] at h
                refine ge_index (d := 187) (ty := 0) (t := 24) (el := 3) (sz := 1) (m := m13.length) (c := cz14) (x := (.tmp 185)) (y := (.tmp 186)) (A := Z14) (k' := .i64) (j := (i3 : Int)) (jn := i3) (b0 := blkOf Z14) (o0 := offOf Z14) (by kernel_rfl) (by kernel_rfl) (by kernel_rfl) (by kernel_rfl) (by kernel_rfl) ((hS243.rdAt 5 rfl).eqSome (pos_of_get hx15)) rfl (lt_of_get hx15) ?_
                refine ge_batch [20, 21, 22] (ans := [.val (.int .i64 e9)]) (vs := [(190, .bool (e8 != e9)), (189, .bool (e8 != e9)), (188, .int .i64 e9)]) (l := [.loaded ⟨blkOf Z14, offOf Z14 + i3 * 1, none⟩ (.int .i64 e9)]) (by kernel_rfl) ⟨RdL.cell (j := 0) (hS243.rdAt 5 rfl) hx15 rfl, trivial⟩ ?_
                refine ge_nil fun a hF => hK59 _ _ ?_ a hF
                by_cases hc30 : e8 = e9
                · rw [if_pos hc30] at h
                  refine we_known (t := 190) (b := (e8 != e9)) (v := false) (by kernel_rfl) (bne_eq_false_iff_eq.2 hc30) ?_
                  refine we_false (by kernel_rfl) ?_
                  refine we_skip fun a hF => hK41 _ _ ?_ a hF
                  refine we_region [(0, 0), (1, 0)] rfl ?_
                  refine ge_addn (d := 196) (ty := 3) (x := (.tmp 141)) (y := (.const (.int .i64 1))) (t := 3) (t2 := 3) (k := .i64) (m := i3) (by kernel_rfl) (by kernel_rfl) (by kernel_rfl) (by have h0 := hR0.small; omega) ?_
                  refine ge_batch [1] (ans := []) (vs := [(141, .int .i64 ((i3 + 1 : Nat) : Int))]) (l := []) (by kernel_rfl) trivial ?_
                  have hS266 := hS243.bring 6 rfl
                  have hS267 := hS266.bring 6 rfl
                  have hS268 := hS267.bring 6 rfl
                  have hS269 := hS268.bring 6 rfl
                  have hS270 := hS269.bring 6 rfl
                  have hS271 := hS270.bring 6 rfl
                  have hS272 := hS271.takeN 6
                  obtain rfl := Option.some.inj h
                  exact ge_nil fun a hF => hQ _ _ _ (Outs.again ⟨hS272, hF.weaken ⟨by kernel_rfl, by kernel_rfl, by kernel_rfl, by kernel_rfl, by kernel_rfl, by kernel_rfl, by kernel_rfl, by kernel_rfl, trivial⟩⟩)
                · rw [if_neg hc30] at h
                  refine we_known (t := 190) (b := (e8 != e9)) (v := true) (by kernel_rfl) (bne_iff_ne.2 hc30) ?_
                  refine we_true (by kernel_rfl) ?_
                  refine we_seq fun K62 hK62 => ?_
                  refine we_region [(0, 0), (1, 0), (2, 1), (3, 0), (4, 0), (5, 2), (6, 2)] rfl ?_
                  refine ge_batch [0, 1] (ans := []) (vs := [(192, .int .i64 (i3 : Int)), (191, .func (.func 82) #[] #[])]) (l := []) (by kernel_rfl) trivial ?_
                  refine ge_call (d := some 193) (f := 82) (args := #[.int .i64 7, .int .i64 (i3 : Int)]) (by kernel_rfl) (mach_Look_1_ok 7 (i3 : Int) _ _ rfl) ?_
                  rintro _ w67 ⟨v27, m24, rfl, hS273⟩
                  refine ⟨_, rfl, hS273.below, ?_⟩
                  have hS274 := hS243.call hS273
                  refine ge_batch [3, 4] (ans := []) (vs := [(195, .agg #[.int .i64 (((mach_Look_1.f 7 (i3 : Int)).2).Code), .int .i64 (((mach_Look_1.f 7 (i3 : Int)).2).At)]), (194, .agg #[v27, .map m24])]) (l := []) (by kernel_rfl) trivial ?_
                  obtain ⟨Z23, cz23, rfl⟩ := hS274.open 0 rfl
                  have hS275 := hS274.bring 5 rfl
                  refine ge_set (b := b1) (j := 0) (cs := #[.slice none 0 0, .map none]) (t := 115) (vs := [(.slice Z23 (((mach_Look_1.f 7 (i3 : Int)).1).In).length cz23), .map m24]) hS275 (by kernel_rfl) rfl rfl fun w68 hS276 => ?_
                  have hS277 : St w0 w68 [Own.blk b1 (.cells #[(.slice Z23 (((mach_Look_1.f 7 (i3 : Int)).1).In).length cz23), .map m24] 115 (0, 0)), Own.of (.slice Z23 (((mach_Look_1.f 7 (i3 : Int)).1).In).length cz23) 3 (((mach_Look_1.f 7 (i3 : Int)).1).In), Own.mapv (κ := Int) (ν := Int) m24 (((mach_Look_1.f 7 (i3 : Int)).1).Close), Own.blk b6 (.cells #[.int .i64 e4.Op, .int .i64 e4.A, .int .i64 e4.B] 29 (0, 0)), Own.blk b5 (.cells #[.slice A0 l0.length c0, (.slice Z11 m12.length cz11), (.slice Z14 m13.length cz14), .map (some b4)] 143 (0, 0)), Own.blk b2 (.cells #[.int .i64 0, .int .i64 0] 40 (0, 0)), Own.of (.slice Z11 m12.length cz11) 3 m12, Own.of (.slice Z14 m13.length cz14) 3 m13, Own.map (κ := Int) (ν := Int) b4 mp3] := hS276
                  have hS278 := hS277.bring 5 rfl
                  refine ge_set (b := b2) (j := 0) (cs := #[.int .i64 0, .int .i64 0]) (t := 40) (vs := [.int .i64 (((mach_Look_1.f 7 (i3 : Int)).2).Code), .int .i64 (((mach_Look_1.f 7 (i3 : Int)).2).At)]) hS278 (by kernel_rfl) rfl rfl fun w69 hS279 => ?_
                  have hS280 : St w0 w69 [Own.blk b2 (.cells #[.int .i64 (((mach_Look_1.f 7 (i3 : Int)).2).Code), .int .i64 (((mach_Look_1.f 7 (i3 : Int)).2).At)] 40 (0, 0)), Own.blk b1 (.cells #[(.slice Z23 (((mach_Look_1.f 7 (i3 : Int)).1).In).length cz23), .map m24] 115 (0, 0)), Own.of (.slice Z23 (((mach_Look_1.f 7 (i3 : Int)).1).In).length cz23) 3 (((mach_Look_1.f 7 (i3 : Int)).1).In), Own.mapv (κ := Int) (ν := Int) m24 (((mach_Look_1.f 7 (i3 : Int)).1).Close), Own.blk b6 (.cells #[.int .i64 e4.Op, .int .i64 e4.A, .int .i64 e4.B] 29 (0, 0)), Own.blk b5 (.cells #[.slice A0 l0.length c0, (.slice Z11 m12.length cz11), (.slice Z14 m13.length cz14), .map (some b4)] 143 (0, 0)), Own.of (.slice Z11 m12.length cz11) 3 m12, Own.of (.slice Z14 m13.length cz14) 3 m13, Own.map (κ := Int) (ν := Int) b4 mp3] := hS279
                  refine ge_nil fun a hF => hK62 _ _ ?_ a hF
                  have hS281 := hS280.bring 3 rfl
                  have hS282 := hS281.bring 3 rfl
                  have hS283 := hS282.takeN 2
                  obtain rfl := Option.some.inj h
                  exact we_ret fun a hF => hQ _ _ _ (Outs.out nofun (Exits.on ⟨rfl, (post_ret (rs := [.cell 2 115, .cell 3 40]) (ans := [.val ((.slice Z23 (((mach_Look_1.f 7 (i3 : Int)).1).In).length cz23)), .val (.map m24), .val (.int .i64 (((mach_Look_1.f 7 (i3 : Int)).2).Code)), .val (.int .i64 (((mach_Look_1.f 7 (i3 : Int)).2).At))]) (vs := [.agg #[(.slice Z23 (((mach_Look_1.f 7 (i3 : Int)).1).In).length cz23), .map m24], .agg #[.int .i64 (((mach_Look_1.f 7 (i3 : Int)).2).Code), .int .i64 (((mach_Look_1.f 7 (i3 : Int)).2).At)]]) (l := [.loaded ⟨b1, 0, none⟩ ((.slice Z23 (((mach_Look_1.f 7 (i3 : Int)).1).In).length cz23)), .loaded ⟨b1, 1, none⟩ (.map m24), .loaded ⟨b2, 0, none⟩ (.int .i64 (((mach_Look_1.f 7 (i3 : Int)).2).Code)), .loaded ⟨b2, 1, none⟩ (.int .i64 (((mach_Look_1.f 7 (i3 : Int)).2).At))]) rfl (by kernel_rfl) ⟨hS280.cell 1 rfl rfl, hS280.cell 1 rfl rfl, hS280.cell 0 rfl rfl, hS280.cell 0 rfl rfl, trivial⟩ ⟨(.slice Z23 (((mach_Look_1.f 7 (i3 : Int)).1).In).length cz23), m24, rfl, hS283⟩) a hF⟩))
          · rw [if_neg hc27] at h
            cases h
        · rw [if_neg hc26] at h
          refine we_known (t := 158) (b := decide (e4.A < (l0.length : Int))) (v := false) (by kernel_rfl) (decide_eq_false hc26) ?_
          refine we_false (by kernel_rfl) ?_
          refine we_skip fun a hF => hK57 _ _ ?_ a hF
          refine we_seq fun K63 hK63 => ?_
          refine we_region [(0, 0), (1, 0), (2, 0), (3, 0), (4, 0), (5, 0), (6, 0), (7, 0), (8, 0), (9, 0), (10, 0), (11, 0), (12, 0), (13, 0), (14, 0), (15, 0), (16, 0), (17, 0), (18, 0), (19, 0), (20, 0), (21, 0), (22, 0)] rfl ?_
          refine ge_batch [0, 1, 2, 3, 4] (ans := [.val (.int .i64 e4.A)]) (vs := [(172, .bool (decide (e4.A ≤ (i3 : Int)))), (171, .bool (decide (e4.A ≤ (i3 : Int)))), (170, .int .i64 (i3 : Int)), (169, .int .i64 e4.A), (168, .pointer (some ⟨b6, 1, none⟩))]) (l := [.loaded ⟨b6, 1, none⟩ (.int .i64 e4.A)]) (by kernel_rfl) ⟨hS161.cell 0 rfl rfl, trivial⟩ ?_
          by_cases hc31 : e4.A ≤ (i3 : Int)
          · rw [if_pos hc31] at h
            refine ge_known (t := 172) (b := decide (e4.A ≤ (i3 : Int))) (c := true) (by kernel_rfl) (decide_eq_true hc31) ?_
            refine ge_batch [5, 6, 7, 8, 9, 10, 11, 12, 13, 14, 15, 16, 17, 18, 19, 20, 21, 22] (ans := []) (vs := [(190, .bool true), (189, undef), (188, undef), (187, undef), (186, undef), (185, undef), (184, undef), (183, undef), (182, undef), (181, undef), (180, undef), (179, .bool true), (178, .bool true), (177, undef), (176, undef), (175, undef), (174, undef), (173, undef)]) (l := []) (by kernel_rfl) trivial ?_
            refine ge_nil fun a hF => hK63 _ _ ?_ a hF
            refine we_true (by kernel_rfl) ?_
            refine we_seq fun K64 hK64 => ?_
            refine we_region [(0, 0), (1, 0), (2, 1), (3, 0), (4, 0), (5, 2), (6, 2)] rfl ?_
            refine ge_batch [0, 1] (ans := []) (vs := [(192, .int .i64 (i3 : Int)), (191, .func (.func 82) #[] #[])]) (l := []) (by kernel_rfl) trivial ?_
            refine ge_call (d := some 193) (f := 82) (args := #[.int .i64 7, .int .i64 (i3 : Int)]) (by kernel_rfl) (mach_Look_1_ok 7 (i3 : Int) _ _ rfl) ?_
            rintro _ w70 ⟨v28, m25, rfl, hS284⟩
            refine ⟨_, rfl, hS284.below, ?_⟩
            have hS285 := hS161.call hS284
            refine ge_batch [3, 4] (ans := []) (vs := [(195, .agg #[.int .i64 (((mach_Look_1.f 7 (i3 : Int)).2).Code), .int .i64 (((mach_Look_1.f 7 (i3 : Int)).2).At)]), (194, .agg #[v28, .map m25])]) (l := []) (by kernel_rfl) trivial ?_
            obtain ⟨Z24, cz24, rfl⟩ := hS285.open 0 rfl
            have hS286 := hS285.bring 5 rfl
            refine ge_set (b := b1) (j := 0) (cs := #[.slice none 0 0, .map none]) (t := 115) (vs := [(.slice Z24 (((mach_Look_1.f 7 (i3 : Int)).1).In).length cz24), .map m25]) hS286 (by kernel_rfl) rfl rfl fun w71 hS287 => ?_
            have hS288 : St w0 w71 [Own.blk b1 (.cells #[(.slice Z24 (((mach_Look_1.f 7 (i3 : Int)).1).In).length cz24), .map m25] 115 (0, 0)), Own.of (.slice Z24 (((mach_Look_1.f 7 (i3 : Int)).1).In).length cz24) 3 (((mach_Look_1.f 7 (i3 : Int)).1).In), Own.mapv (κ := Int) (ν := Int) m25 (((mach_Look_1.f 7 (i3 : Int)).1).Close), Own.blk b6 (.cells #[.int .i64 e4.Op, .int .i64 e4.A, .int .i64 e4.B] 29 (0, 0)), Own.blk b5 (.cells #[.slice A0 l0.length c0, (.slice Z11 m12.length cz11), (.slice Z14 m13.length cz14), .map (some b4)] 143 (0, 0)), Own.blk b2 (.cells #[.int .i64 0, .int .i64 0] 40 (0, 0)), Own.of (.slice Z11 m12.length cz11) 3 m12, Own.of (.slice Z14 m13.length cz14) 3 m13, Own.map (κ := Int) (ν := Int) b4 mp3] := hS287
            have hS289 := hS288.bring 5 rfl
            refine ge_set (b := b2) (j := 0) (cs := #[.int .i64 0, .int .i64 0]) (t := 40) (vs := [.int .i64 (((mach_Look_1.f 7 (i3 : Int)).2).Code), .int .i64 (((mach_Look_1.f 7 (i3 : Int)).2).At)]) hS289 (by kernel_rfl) rfl rfl fun w72 hS290 => ?_
            have hS291 : St w0 w72 [Own.blk b2 (.cells #[.int .i64 (((mach_Look_1.f 7 (i3 : Int)).2).Code), .int .i64 (((mach_Look_1.f 7 (i3 : Int)).2).At)] 40 (0, 0)), Own.blk b1 (.cells #[(.slice Z24 (((mach_Look_1.f 7 (i3 : Int)).1).In).length cz24), .map m25] 115 (0, 0)), Own.of (.slice Z24 (((mach_Look_1.f 7 (i3 : Int)).1).In).length cz24) 3 (((mach_Look_1.f 7 (i3 : Int)).1).In), Own.mapv (κ := Int) (ν := Int) m25 (((mach_Look_1.f 7 (i3 : Int)).1).Close), Own.blk b6 (.cells #[.int .i64 e4.Op, .int .i64 e4.A, .int .i64 e4.B] 29 (0, 0)), Own.blk b5 (.cells #[.slice A0 l0.length c0, (.slice Z11 m12.length cz11), (.slice Z14 m13.length cz14), .map (some b4)] 143 (0, 0)), Own.of (.slice Z11 m12.length cz11) 3 m12, Own.of (.slice Z14 m13.length cz14) 3 m13, Own.map (κ := Int) (ν := Int) b4 mp3] := hS290
            refine ge_nil fun a hF => hK64 _ _ ?_ a hF
            have hS292 := hS291.bring 3 rfl
            have hS293 := hS292.bring 3 rfl
            have hS294 := hS293.takeN 2
            obtain rfl := Option.some.inj h
            exact we_ret fun a hF => hQ _ _ _ (Outs.out nofun (Exits.on ⟨rfl, (post_ret (rs := [.cell 2 115, .cell 3 40]) (ans := [.val ((.slice Z24 (((mach_Look_1.f 7 (i3 : Int)).1).In).length cz24)), .val (.map m25), .val (.int .i64 (((mach_Look_1.f 7 (i3 : Int)).2).Code)), .val (.int .i64 (((mach_Look_1.f 7 (i3 : Int)).2).At))]) (vs := [.agg #[(.slice Z24 (((mach_Look_1.f 7 (i3 : Int)).1).In).length cz24), .map m25], .agg #[.int .i64 (((mach_Look_1.f 7 (i3 : Int)).2).Code), .int .i64 (((mach_Look_1.f 7 (i3 : Int)).2).At)]]) (l := [.loaded ⟨b1, 0, none⟩ ((.slice Z24 (((mach_Look_1.f 7 (i3 : Int)).1).In).length cz24)), .loaded ⟨b1, 1, none⟩ (.map m25), .loaded ⟨b2, 0, none⟩ (.int .i64 (((mach_Look_1.f 7 (i3 : Int)).2).Code)), .loaded ⟨b2, 1, none⟩ (.int .i64 (((mach_Look_1.f 7 (i3 : Int)).2).At))]) rfl (by kernel_rfl) ⟨hS291.cell 1 rfl rfl, hS291.cell 1 rfl rfl, hS291.cell 0 rfl rfl, hS291.cell 0 rfl rfl, trivial⟩ ⟨(.slice Z24 (((mach_Look_1.f 7 (i3 : Int)).1).In).length cz24), m25, rfl, hS294⟩) a hF⟩))
          · rw [if_neg hc31] at h
            refine ge_known (t := 172) (b := decide (e4.A ≤ (i3 : Int))) (c := false) (by kernel_rfl) (decide_eq_false hc31) ?_
            refine ge_batch [5, 6, 7, 8, 9, 10, 11] (ans := [.val (.int .i64 e4.A)]) (vs := [(179, .bool (decide (e4.A > (l0.length : Int)))), (178, .bool (decide (e4.A > (l0.length : Int)))), (177, .bool (decide (e4.A > (l0.length : Int)))), (176, .int .i64 (l0.length : Int)), (175, .slice A0 l0.length c0), (174, .int .i64 e4.A), (173, .pointer (some ⟨b6, 1, none⟩))]) (l := [.loaded ⟨b6, 1, none⟩ (.int .i64 e4.A)]) (by kernel_rfl) ⟨hS161.cell 0 rfl rfl, trivial⟩ ?_
            by_cases hc32 : e4.A > (l0.length : Int)
            · rw [if_pos hc32] at h
              refine ge_known (t := 179) (b := decide (e4.A > (l0.length : Int))) (c := true) (by kernel_rfl) (decide_eq_true hc32) ?_
              refine ge_batch [12, 13, 14, 15, 16, 17, 18, 19, 20, 21, 22] (ans := []) (vs := [(190, .bool true), (189, undef), (188, undef), (187, undef), (186, undef), (185, undef), (184, undef), (183, undef), (182, undef), (181, undef), (180, undef)]) (l := []) (by kernel_rfl) trivial ?_
              refine ge_nil fun a hF => hK63 _ _ ?_ a hF
              refine we_true (by kernel_rfl) ?_
              refine we_seq fun K65 hK65 => ?_
              refine we_region [(0, 0), (1, 0), (2, 1), (3, 0), (4, 0), (5, 2), (6, 2)] rfl ?_
              refine ge_batch [0, 1] (ans := []) (vs := [(192, .int .i64 (i3 : Int)), (191, .func (.func 82) #[] #[])]) (l := []) (by kernel_rfl) trivial ?_
              refine ge_call (d := some 193) (f := 82) (args := #[.int .i64 7, .int .i64 (i3 : Int)]) (by kernel_rfl) (mach_Look_1_ok 7 (i3 : Int) _ _ rfl) ?_
              rintro _ w73 ⟨v29, m26, rfl, hS295⟩
              refine ⟨_, rfl, hS295.below, ?_⟩
              have hS296 := hS161.call hS295
              refine ge_batch [3, 4] (ans := []) (vs := [(195, .agg #[.int .i64 (((mach_Look_1.f 7 (i3 : Int)).2).Code), .int .i64 (((mach_Look_1.f 7 (i3 : Int)).2).At)]), (194, .agg #[v29, .map m26])]) (l := []) (by kernel_rfl) trivial ?_
              obtain ⟨Z25, cz25, rfl⟩ := hS296.open 0 rfl
              have hS297 := hS296.bring 5 rfl
              refine ge_set (b := b1) (j := 0) (cs := #[.slice none 0 0, .map none]) (t := 115) (vs := [(.slice Z25 (((mach_Look_1.f 7 (i3 : Int)).1).In).length cz25), .map m26]) hS297 (by kernel_rfl) rfl rfl fun w74 hS298 => ?_
              have hS299 : St w0 w74 [Own.blk b1 (.cells #[(.slice Z25 (((mach_Look_1.f 7 (i3 : Int)).1).In).length cz25), .map m26] 115 (0, 0)), Own.of (.slice Z25 (((mach_Look_1.f 7 (i3 : Int)).1).In).length cz25) 3 (((mach_Look_1.f 7 (i3 : Int)).1).In), Own.mapv (κ := Int) (ν := Int) m26 (((mach_Look_1.f 7 (i3 : Int)).1).Close), Own.blk b6 (.cells #[.int .i64 e4.Op, .int .i64 e4.A, .int .i64 e4.B] 29 (0, 0)), Own.blk b5 (.cells #[.slice A0 l0.length c0, (.slice Z11 m12.length cz11), (.slice Z14 m13.length cz14), .map (some b4)] 143 (0, 0)), Own.blk b2 (.cells #[.int .i64 0, .int .i64 0] 40 (0, 0)), Own.of (.slice Z11 m12.length cz11) 3 m12, Own.of (.slice Z14 m13.length cz14) 3 m13, Own.map (κ := Int) (ν := Int) b4 mp3] := hS298
              have hS300 := hS299.bring 5 rfl
              refine ge_set (b := b2) (j := 0) (cs := #[.int .i64 0, .int .i64 0]) (t := 40) (vs := [.int .i64 (((mach_Look_1.f 7 (i3 : Int)).2).Code), .int .i64 (((mach_Look_1.f 7 (i3 : Int)).2).At)]) hS300 (by kernel_rfl) rfl rfl fun w75 hS301 => ?_
              have hS302 : St w0 w75 [Own.blk b2 (.cells #[.int .i64 (((mach_Look_1.f 7 (i3 : Int)).2).Code), .int .i64 (((mach_Look_1.f 7 (i3 : Int)).2).At)] 40 (0, 0)), Own.blk b1 (.cells #[(.slice Z25 (((mach_Look_1.f 7 (i3 : Int)).1).In).length cz25), .map m26] 115 (0, 0)), Own.of (.slice Z25 (((mach_Look_1.f 7 (i3 : Int)).1).In).length cz25) 3 (((mach_Look_1.f 7 (i3 : Int)).1).In), Own.mapv (κ := Int) (ν := Int) m26 (((mach_Look_1.f 7 (i3 : Int)).1).Close), Own.blk b6 (.cells #[.int .i64 e4.Op, .int .i64 e4.A, .int .i64 e4.B] 29 (0, 0)), Own.blk b5 (.cells #[.slice A0 l0.length c0, (.slice Z11 m12.length cz11), (.slice Z14 m13.length cz14), .map (some b4)] 143 (0, 0)), Own.of (.slice Z11 m12.length cz11) 3 m12, Own.of (.slice Z14 m13.length cz14) 3 m13, Own.map (κ := Int) (ν := Int) b4 mp3] := hS301
              refine ge_nil fun a hF => hK65 _ _ ?_ a hF
              have hS303 := hS302.bring 3 rfl
              have hS304 := hS303.bring 3 rfl
              have hS305 := hS304.takeN 2
              obtain rfl := Option.some.inj h
              exact we_ret fun a hF => hQ _ _ _ (Outs.out nofun (Exits.on ⟨rfl, (post_ret (rs := [.cell 2 115, .cell 3 40]) (ans := [.val ((.slice Z25 (((mach_Look_1.f 7 (i3 : Int)).1).In).length cz25)), .val (.map m26), .val (.int .i64 (((mach_Look_1.f 7 (i3 : Int)).2).Code)), .val (.int .i64 (((mach_Look_1.f 7 (i3 : Int)).2).At))]) (vs := [.agg #[(.slice Z25 (((mach_Look_1.f 7 (i3 : Int)).1).In).length cz25), .map m26], .agg #[.int .i64 (((mach_Look_1.f 7 (i3 : Int)).2).Code), .int .i64 (((mach_Look_1.f 7 (i3 : Int)).2).At)]]) (l := [.loaded ⟨b1, 0, none⟩ ((.slice Z25 (((mach_Look_1.f 7 (i3 : Int)).1).In).length cz25)), .loaded ⟨b1, 1, none⟩ (.map m26), .loaded ⟨b2, 0, none⟩ (.int .i64 (((mach_Look_1.f 7 (i3 : Int)).2).Code)), .loaded ⟨b2, 1, none⟩ (.int .i64 (((mach_Look_1.f 7 (i3 : Int)).2).At))]) rfl (by kernel_rfl) ⟨hS302.cell 1 rfl rfl, hS302.cell 1 rfl rfl, hS302.cell 0 rfl rfl, hS302.cell 0 rfl rfl, trivial⟩ ⟨(.slice Z25 (((mach_Look_1.f 7 (i3 : Int)).1).In).length cz25), m26, rfl, hS305⟩) a hF⟩))
            · rw [if_neg hc32] at h
              refine ge_known (t := 179) (b := decide (e4.A > (l0.length : Int))) (c := false) (by kernel_rfl) (decide_eq_false hc32) ?_
              refine ge_batch [12, 13, 14, 15, 16, 17, 18] (ans := [.val ((.slice Z14 m13.length cz14))]) (vs := [(186, .int .i64 (i3 : Int)), (185, (.slice Z14 m13.length cz14)), (184, .pointer (some ⟨b5, 2, none⟩)), (183, .pointer (some ⟨b5, 2, none⟩)), (182, .pointer (some ⟨b5, 0, none⟩)), (181, .pointer (some ⟨b5, 0, none⟩)), (180, .int .i64 (-1))]) (l := [.loaded ⟨b5, 2, none⟩ ((.slice Z14 m13.length cz14))]) (by kernel_rfl) ⟨hS161.cell 1 rfl rfl, trivial⟩ ?_
              rcases hx16 : m13[i3]? with _ | e10
              · rw [hx16] at h; cases h
              rw [hx16] at h
              simp only [] at h
              refine ge_index (d := 187) (ty := 0) (t := 24) (el := 3) (sz := 1) (m := m13.length) (c := cz14) (x := (.tmp 185)) (y := (.tmp 186)) (A := Z14) (k' := .i64) (j := (i3 : Int)) (jn := i3) (b0 := blkOf Z14) (o0 := offOf Z14) (by kernel_rfl) (by kernel_rfl) (by kernel_rfl) (by kernel_rfl) (by kernel_rfl) ((hS161.rdAt 5 rfl).eqSome (pos_of_get hx16)) rfl (lt_of_get hx16) ?_
              refine ge_batch [20, 21, 22] (ans := [.val (.int .i64 e10)]) (vs := [(190, .bool ((-1) != e10)), (189, .bool ((-1) != e10)), (188, .int .i64 e10)]) (l := [.loaded ⟨blkOf Z14, offOf Z14 + i3 * 1, none⟩ (.int .i64 e10)]) (by kernel_rfl) ⟨RdL.cell (j := 0) (hS161.rdAt 5 rfl) hx16 rfl, trivial⟩ ?_
              refine ge_nil fun a hF => hK63 _ _ ?_ a hF
              by_cases hc33 : (-1) = e10
              · rw [if_pos hc33] at h
                refine we_known (t := 190) (b := ((-1) != e10)) (v := false) (by kernel_rfl) (bne_eq_false_iff_eq.2 hc33) ?_
                refine we_false (by kernel_rfl) ?_
                refine we_skip fun a hF => hK41 _ _ ?_ a hF
                refine we_region [(0, 0), (1, 0)] rfl ?_
                refine ge_addn (d := 196) (ty := 3) (x := (.tmp 141)) (y := (.const (.int .i64 1))) (t := 3) (t2 := 3) (k := .i64) (m := i3) (by kernel_rfl) (by kernel_rfl) (by kernel_rfl) (by have h0 := hR0.small; omega) ?_
                refine ge_batch [1] (ans := []) (vs := [(141, .int .i64 ((i3 + 1 : Nat) : Int))]) (l := []) (by kernel_rfl) trivial ?_
                have hS306 := hS161.bring 6 rfl
                have hS307 := hS306.bring 6 rfl
                have hS308 := hS307.bring 6 rfl
                have hS309 := hS308.bring 6 rfl
                have hS310 := hS309.bring 6 rfl
                have hS311 := hS310.bring 6 rfl
                have hS312 := hS311.takeN 6
                obtain rfl := Option.some.inj h
                exact ge_nil fun a hF => hQ _ _ _ (Outs.again ⟨hS312, hF.weaken ⟨by kernel_rfl, by kernel_rfl, by kernel_rfl, by kernel_rfl, by kernel_rfl, by kernel_rfl, by kernel_rfl, by kernel_rfl, trivial⟩⟩)
              · rw [if_neg hc33] at h
                refine we_known (t := 190) (b := ((-1) != e10)) (v := true) (by kernel_rfl) (bne_iff_ne.2 hc33) ?_
                refine we_true (by kernel_rfl) ?_
                refine we_seq fun K66 hK66 => ?_
                refine we_region [(0, 0), (1, 0), (2, 1), (3, 0), (4, 0), (5, 2), (6, 2)] rfl ?_
                refine ge_batch [0, 1] (ans := []) (vs := [(192, .int .i64 (i3 : Int)), (191, .func (.func 82) #[] #[])]) (l := []) (by kernel_rfl) trivial ?_
                refine ge_call (d := some 193) (f := 82) (args := #[.int .i64 7, .int .i64 (i3 : Int)]) (by kernel_rfl) (mach_Look_1_ok 7 (i3 : Int) _ _ rfl) ?_
                rintro _ w76 ⟨v30, m27, rfl, hS313⟩
                refine ⟨_, rfl, hS313.below, ?_⟩
                have hS314 := hS161.call hS313
                refine ge_batch [3, 4] (ans := []) (vs := [(195, .agg #[.int .i64 (((mach_Look_1.f 7 (i3 : Int)).2).Code), .int .i64 (((mach_Look_1.f 7 (i3 : Int)).2).At)]), (194, .agg #[v30, .map m27])]) (l := []) (by kernel_rfl) trivial ?_
                obtain ⟨Z26, cz26, rfl⟩ := hS314.open 0 rfl
                have hS315 := hS314.bring 5 rfl
                refine ge_set (b := b1) (j := 0) (cs := #[.slice none 0 0, .map none]) (t := 115) (vs := [(.slice Z26 (((mach_Look_1.f 7 (i3 : Int)).1).In).length cz26), .map m27]) hS315 (by kernel_rfl) rfl rfl fun w77 hS316 => ?_
                have hS317 : St w0 w77 [Own.blk b1 (.cells #[(.slice Z26 (((mach_Look_1.f 7 (i3 : Int)).1).In).length cz26), .map m27] 115 (0, 0)), Own.of (.slice Z26 (((mach_Look_1.f 7 (i3 : Int)).1).In).length cz26) 3 (((mach_Look_1.f 7 (i3 : Int)).1).In), Own.mapv (κ := Int) (ν := Int) m27 (((mach_Look_1.f 7 (i3 : Int)).1).Close), Own.blk b6 (.cells #[.int .i64 e4.Op, .int .i64 e4.A, .int .i64 e4.B] 29 (0, 0)), Own.blk b5 (.cells #[.slice A0 l0.length c0, (.slice Z11 m12.length cz11), (.slice Z14 m13.length cz14), .map (some b4)] 143 (0, 0)), Own.blk b2 (.cells #[.int .i64 0, .int .i64 0] 40 (0, 0)), Own.of (.slice Z11 m12.length cz11) 3 m12, Own.of (.slice Z14 m13.length cz14) 3 m13, Own.map (κ := Int) (ν := Int) b4 mp3] := hS316
                have hS318 := hS317.bring 5 rfl
                refine ge_set (b := b2) (j := 0) (cs := #[.int .i64 0, .int .i64 0]) (t := 40) (vs := [.int .i64 (((mach_Look_1.f 7 (i3 : Int)).2).Code), .int .i64 (((mach_Look_1.f 7 (i3 : Int)).2).At)]) hS318 (by kernel_rfl) rfl rfl fun w78 hS319 => ?_
                have hS320 : St w0 w78 [Own.blk b2 (.cells #[.int .i64 (((mach_Look_1.f 7 (i3 : Int)).2).Code), .int .i64 (((mach_Look_1.f 7 (i3 : Int)).2).At)] 40 (0, 0)), Own.blk b1 (.cells #[(.slice Z26 (((mach_Look_1.f 7 (i3 : Int)).1).In).length cz26), .map m27] 115 (0, 0)), Own.of (.slice Z26 (((mach_Look_1.f 7 (i3 : Int)).1).In).length cz26) 3 (((mach_Look_1.f 7 (i3 : Int)).1).In), Own.mapv (κ := Int) (ν := Int) m27 (((mach_Look_1.f 7 (i3 : Int)).1).Close), Own.blk b6 (.cells #[.int .i64 e4.Op, .int .i64 e4.A, .int .i64 e4.B] 29 (0, 0)), Own.blk b5 (.cells #[.slice A0 l0.length c0, (.slice Z11 m12.length cz11), (.slice Z14 m13.length cz14), .map (some b4)] 143 (0, 0)), Own.of (.slice Z11 m12.length cz11) 3 m12, Own.of (.slice Z14 m13.length cz14) 3 m13, Own.map (κ := Int) (ν := Int) b4 mp3] := hS319
                refine ge_nil fun a hF => hK66 _ _ ?_ a hF
                have hS321 := hS320.bring 3 rfl
                have hS322 := hS321.bring 3 rfl
                have hS323 := hS322.takeN 2
                obtain rfl := Option.some.inj h
                exact we_ret fun a hF => hQ _ _ _ (Outs.out nofun (Exits.on ⟨rfl, (post_ret (rs := [.cell 2 115, .cell 3 40]) (ans := [.val ((.slice Z26 (((mach_Look_1.f 7 (i3 : Int)).1).In).length cz26)), .val (.map m27), .val (.int .i64 (((mach_Look_1.f 7 (i3 : Int)).2).Code)), .val (.int .i64 (((mach_Look_1.f 7 (i3 : Int)).2).At))]) (vs := [.agg #[(.slice Z26 (((mach_Look_1.f 7 (i3 : Int)).1).In).length cz26), .map m27], .agg #[.int .i64 (((mach_Look_1.f 7 (i3 : Int)).2).Code), .int .i64 (((mach_Look_1.f 7 (i3 : Int)).2).At)]]) (l := [.loaded ⟨b1, 0, none⟩ ((.slice Z26 (((mach_Look_1.f 7 (i3 : Int)).1).In).length cz26)), .loaded ⟨b1, 1, none⟩ (.map m27), .loaded ⟨b2, 0, none⟩ (.int .i64 (((mach_Look_1.f 7 (i3 : Int)).2).Code)), .loaded ⟨b2, 1, none⟩ (.int .i64 (((mach_Look_1.f 7 (i3 : Int)).2).At))]) rfl (by kernel_rfl) ⟨hS320.cell 1 rfl rfl, hS320.cell 1 rfl rfl, hS320.cell 0 rfl rfl, hS320.cell 0 rfl rfl, trivial⟩ ⟨(.slice Z26 (((mach_Look_1.f 7 (i3 : Int)).1).In).length cz26), m27, rfl, hS323⟩) a hF⟩))
      · rw [if_neg hc25] at h
        refine we_known (t := 153) (b := (e4.Op != 12)) (v := true) (by kernel_rfl) (bne_iff_ne.2 hc25) ?_
        refine we_true (by kernel_rfl) ?_
        refine we_exit fun a hF => hK41 _ _ ?_ a hF
        refine we_region [(0, 0), (1, 0)] rfl ?_
        refine ge_addn (d := 196) (ty := 3) (x := (.tmp 141)) (y := (.const (.int .i64 1))) (t := 3) (t2 := 3) (k := .i64) (m := i3) (by kernel_rfl) (by kernel_rfl) (by kernel_rfl) (by have h0 := hR0.small; omega) ?_
        refine ge_batch [1] (ans := []) (vs := [(141, .int .i64 ((i3 + 1 : Nat) : Int))]) (l := []) (by kernel_rfl) trivial ?_
        have hS324 := hS161.bring 6 rfl
        have hS325 := hS324.bring 6 rfl
        have hS326 := hS325.bring 6 rfl
        have hS327 := hS326.bring 6 rfl
        have hS328 := hS327.bring 6 rfl
        have hS329 := hS328.bring 6 rfl
        have hS330 := hS329.takeN 6
        obtain rfl := Option.some.inj h
        exact ge_nil fun a hF => hQ _ _ _ (Outs.again ⟨hS330, hF.weaken ⟨by kernel_rfl, by kernel_rfl, by kernel_rfl, by kernel_rfl, by kernel_rfl, by kernel_rfl, by kernel_rfl, by kernel_rfl, trivial⟩⟩)
  · rw [if_neg hc15] at h
    refine we_known (t := 142) (b := decide ((i3 : Int) < (l0.length : Int))) (v := false) (by kernel_rfl) (decide_eq_false hc15) ?_
    refine we_false (by kernel_rfl) ?_
    have hS331 := hS.bring 5 rfl
    have hS332 := hS331.bring 5 rfl
    have hS333 := hS332.bring 5 rfl
    have hS334 := hS333.bring 5 rfl
    have hS335 := hS334.bring 5 rfl
    have hS336 := hS335.bring 5 rfl
    obtain rfl := Option.some.inj h
    exact we_exit fun a hF => hQ _ _ _ (Outs.out nofun (Exits.here ⟨hS336, hF.weaken ⟨by kernel_rfl, by kernel_rfl, by kernel_rfl, by kernel_rfl, trivial⟩⟩))
theorem mach_Look_ok (K : Nat) (l0 : List SIns) (A0 : Option Addr) (c0 : Nat) (w0 : World) (hR0 : RdL w0 A0 l0) (hL0 : l0.length ≤ c0) (r : SShape × SFault) (h : mach_Look.f K l0 = some r) :
    Calls Try.prog 62 #[.slice A0 l0.length c0] w0 (mach_Look.Post w0 r) := by
  have hS := St.start w0
  unfold mach_Look.f at h
  refine calls_enter (n := 209) (args := [.slice A0 l0.length c0]) (fn := Try.f62) rfl rfl rfl rfl ?_
  show WE _ _ _ _ [(0, .slice A0 l0.length c0)] _
  refine we_seq fun K1 hK1 => ?_
  refine we_region [(0, 1), (1, 1)] rfl ?_
  refine ge_new (d := some 2) (o := .cells #[.slice none 0 0, .map none] 115) (v := fun b => .pointer (some ⟨b, 0, none⟩)) hS (fun b => by kernel_rfl) fun b1 w1 hx1 hS1 => ?_
  refine ge_new (d := some 3) (o := .cells #[.int .i64 0, .int .i64 0] 40) (v := fun b => .pointer (some ⟨b, 0, none⟩)) hS1 (fun b => by kernel_rfl) fun b2 w2 hx2 hS2 => ?_
  refine ge_nil fun a hF => hK1 _ _ ?_ a hF
  refine we_seq fun K2 hK2 => ?_
  refine we_region [(0, 0)] rfl ?_
  refine ge_batch [0] (ans := []) (vs := [(4, .func (.func 82) #[] #[])]) (l := []) (by kernel_rfl) trivial ?_
  refine ge_nil fun a hF => hK2 _ _ ?_ a hF
  refine we_seq fun K3 hK3 => ?_
  refine we_seq fun K4 hK4 => ?_
  refine we_region [(0, 0), (1, 0), (2, 0)] rfl ?_
  refine ge_batch [0, 1, 2] (ans := []) (vs := [(18, .bool (decide ((l0.length : Int) > 2000))), (17, .int .i64 (l0.length : Int)), (16, .slice A0 l0.length c0)]) (l := []) (by kernel_rfl) trivial ?_
  refine ge_nil fun a hF => hK4 _ _ ?_ a hF
  by_cases hc1 : (l0.length : Int) > 2000
  · rw [if_pos hc1] at h
    refine we_known (t := 18) (b := decide ((l0.length : Int) > 2000)) (v := true) (by kernel_rfl) (decide_eq_true hc1) ?_
    refine we_true (by kernel_rfl) ?_
    refine we_seq fun K5 hK5 => ?_
    refine we_region [(0, 0), (1, 1), (2, 0), (3, 0), (4, 2), (5, 2)] rfl ?_
    refine ge_batch [0] (ans := []) (vs := [(19, .func (.func 82) #[] #[])]) (l := []) (by kernel_rfl) trivial ?_
    refine ge_call (d := some 20) (f := 82) (args := #[.int .i64 2, .int .i64 0]) (by kernel_rfl) (mach_Look_1_ok 2 0 _ _ rfl) ?_
    rintro _ w3 ⟨v1, m1, rfl, hS3⟩
    refine ⟨_, rfl, hS3.below, ?_⟩
    have hS4 := hS2.call hS3
    refine ge_batch [2, 3] (ans := []) (vs := [(22, .agg #[.int .i64 (((mach_Look_1.f 2 0).2).Code), .int .i64 (((mach_Look_1.f 2 0).2).At)]), (21, .agg #[v1, .map m1])]) (l := []) (by kernel_rfl) trivial ?_
    obtain ⟨Z1, cz1, rfl⟩ := hS4.open 0 rfl
    have hS5 := hS4.bring 3 rfl
    refine ge_set (b := b1) (j := 0) (cs := #[.slice none 0 0, .map none]) (t := 115) (vs := [(.slice Z1 (((mach_Look_1.f 2 0).1).In).length cz1), .map m1]) hS5 (by kernel_rfl) rfl rfl fun w4 hS6 => ?_
    have hS7 : St w0 w4 [Own.blk b1 (.cells #[(.slice Z1 (((mach_Look_1.f 2 0).1).In).length cz1), .map m1] 115 (0, 0)), Own.of (.slice Z1 (((mach_Look_1.f 2 0).1).In).length cz1) 3 (((mach_Look_1.f 2 0).1).In), Own.mapv (κ := Int) (ν := Int) m1 (((mach_Look_1.f 2 0).1).Close), Own.blk b2 (.cells #[.int .i64 0, .int .i64 0] 40 (0, 0))] := hS6
    have hS8 := hS7.bring 3 rfl
    refine ge_set (b := b2) (j := 0) (cs := #[.int .i64 0, .int .i64 0]) (t := 40) (vs := [.int .i64 (((mach_Look_1.f 2 0).2).Code), .int .i64 (((mach_Look_1.f 2 0).2).At)]) hS8 (by kernel_rfl) rfl rfl fun w5 hS9 => ?_
    have hS10 : St w0 w5 [Own.blk b2 (.cells #[.int .i64 (((mach_Look_1.f 2 0).2).Code), .int .i64 (((mach_Look_1.f 2 0).2).At)] 40 (0, 0)), Own.blk b1 (.cells #[(.slice Z1 (((mach_Look_1.f 2 0).1).In).length cz1), .map m1] 115 (0, 0)), Own.of (.slice Z1 (((mach_Look_1.f 2 0).1).In).length cz1) 3 (((mach_Look_1.f 2 0).1).In), Own.mapv (κ := Int) (ν := Int) m1 (((mach_Look_1.f 2 0).1).Close)] := hS9
    refine ge_nil fun a hF => hK5 _ _ ?_ a hF
    have hS11 := hS10.bring 3 rfl
    have hS12 := hS11.bring 3 rfl
    have hS13 := hS12.takeN 2
    obtain rfl := Option.some.inj h
    exact we_ret (post_ret (rs := [.cell 2 115, .cell 3 40]) (ans := [.val ((.slice Z1 (((mach_Look_1.f 2 0).1).In).length cz1)), .val (.map m1), .val (.int .i64 (((mach_Look_1.f 2 0).2).Code)), .val (.int .i64 (((mach_Look_1.f 2 0).2).At))]) (vs := [.agg #[(.slice Z1 (((mach_Look_1.f 2 0).1).In).length cz1), .map m1], .agg #[.int .i64 (((mach_Look_1.f 2 0).2).Code), .int .i64 (((mach_Look_1.f 2 0).2).At)]]) (l := [.loaded ⟨b1, 0, none⟩ ((.slice Z1 (((mach_Look_1.f 2 0).1).In).length cz1)), .loaded ⟨b1, 1, none⟩ (.map m1), .loaded ⟨b2, 0, none⟩ (.int .i64 (((mach_Look_1.f 2 0).2).Code)), .loaded ⟨b2, 1, none⟩ (.int .i64 (((mach_Look_1.f 2 0).2).At))]) rfl (by kernel_rfl) ⟨hS10.cell 1 rfl rfl, hS10.cell 1 rfl rfl, hS10.cell 0 rfl rfl, hS10.cell 0 rfl rfl, trivial⟩ ⟨(.slice Z1 (((mach_Look_1.f 2 0).1).In).length cz1), m1, rfl, hS13⟩)
  · rw [if_neg hc1] at h
    refine we_known (t := 18) (b := decide ((l0.length : Int) > 2000)) (v := false) (by kernel_rfl) (decide_eq_false hc1) ?_
    refine we_false (by kernel_rfl) ?_
    refine we_skip fun a hF => hK3 _ _ ?_ a hF
    refine we_seq fun K6 hK6 => ?_
    refine we_seq fun K7 hK7 => ?_
    refine we_region [(0, 0), (1, 0), (2, 0)] rfl ?_
    refine ge_batch [0, 1, 2] (ans := []) (vs := [(25, .int .i64 0), (24, .int .i64 (l0.length : Int)), (23, .slice A0 l0.length c0)]) (l := []) (by kernel_rfl) trivial ?_
    refine ge_nil fun a hF => hK7 _ _ ?_ a hF
    refine we_block ?_
    have hS14 := hS2.bring 1 rfl
    have hS15 := hS14.bring 1 rfl
    rcases hq10 : iter (mach_Look.r0 l0) K 0 with _ | (_ | rr3)
    · rw [hq10] at h; cases h
    · rw [hq10] at h
      simp only [] at h
      refine we_iter (A := mach_Look.A0 K w0 l0 A0 c0 hR0 hL0 b1 b2 hc1) (B := mach_Look.B0 K w0 l0 A0 c0 hR0 hL0 b1 b2 hc1) hq10 (fun a hF => ⟨hS15, hF.weaken ⟨by kernel_rfl, by kernel_rfl, by kernel_rfl, by kernel_rfl, by kernel_rfl, by kernel_rfl, by kernel_rfl, trivial⟩⟩) (fun s o hf a w hA Q hQ => mach_Look_r0 K w0 l0 A0 c0 hR0 hL0 b1 b2 hc1 s o hf a w hA Q hQ) ?_
      rintro _ a w26 _ ⟨rfl, hS88, hF⟩
      replace hS88 : St w0 w26 [Own.blk b2 (.cells #[.int .i64 0, .int .i64 0] 40 (0, 0)), Own.blk b1 (.cells #[.slice none 0 0, .map none] 115 (0, 0))] := hS88
      refine hK6 [(0, .slice A0 l0.length c0), (2, .pointer (some ⟨b1, 0, none⟩)), (3, .pointer (some ⟨b2, 0, none⟩)), (4, .func (.func 82) #[] #[])] w26 ?_ a hF
      refine we_seq fun K21 hK21 => ?_
      refine we_region [(0, 0), (1, 0), (2, 0), (3, 1), (4, 1), (5, 0), (6, 0), (7, 1), (8, 0)] rfl ?_
      refine ge_batch [0, 1, 2] (ans := []) (vs := [(79, .int .i64 (l0.length : Int)), (78, .slice A0 l0.length c0), (77, .slice A0 l0.length c0)]) (l := []) (by kernel_rfl) trivial ?_
      by_cases hc9 : l0.length ≤ 17592186044416
      · rw [if_pos hc9] at h
        refine ge_make (α := Int) (d := 80) (t := 24) (el := 3) (bytes := 8) (l := l0.length) (c := l0.length) (x := (.tmp 79)) (y := (.tmp 79)) (ty := 24) (k1 := .i64) (k2 := .i64) (li := (l0.length : Int)) (ci := (l0.length : Int)) (z := .int .i64 0) (z' := (0 : Int)) (by kernel_rfl) (by kernel_rfl) (by kernel_rfl) rfl rfl (by kernel_rfl) (by kernel_rfl) rfl hS88 (Nat.le_refl _) rfl (by omega) fun v7 w27 _ hS89 => ?_
        refine ge_new (d := some 81) (o := .map #[] 0) (v := fun b => .map (some b)) hS89 (fun b => by kernel_rfl) fun b4 w28 hx5 hS90 => ?_
        have hS91 := hS90.newMap (κ := Int) (ν := Int)
        obtain ⟨Z7, cz7, rfl⟩ := hS91.open 1 rfl
        refine ge_batch [5, 6] (ans := []) (vs := [(83, .agg #[.slice A0 l0.length c0, .slice none 0 0, (.slice Z7 (List.replicate l0.length (0 : Int)).length cz7), .map (some b4)]), (82, .agg #[(.slice Z7 (List.replicate l0.length (0 : Int)).length cz7), .map (some b4)])]) (l := []) (by kernel_rfl) trivial ?_
        refine ge_new (d := some 84) (o := .cells #[.slice A0 l0.length c0, .slice none 0 0, (.slice Z7 (List.replicate l0.length (0 : Int)).length cz7), .map (some b4)] 143) (v := fun b => .pointer (some ⟨b, 0, none⟩)) hS91 (fun b => by kernel_rfl) fun b5 w29 hx6 hS92 => ?_
        refine ge_batch [8] (ans := []) (vs := [(9, .pointer (some ⟨b5, 0, none⟩))]) (l := []) (by kernel_rfl) trivial ?_
        refine ge_nil fun a hF => hK21 _ _ ?_ a hF
        refine we_seq fun K22 hK22 => ?_
        refine we_seq fun K23 hK23 => ?_
        refine we_region [(0, 0), (1, 0), (2, 0)] rfl ?_
        refine ge_batch [0, 1, 2] (ans := []) (vs := [(87, .int .i64 0), (86, .int .i64 (l0.length : Int)), (85, .slice A0 l0.length c0)]) (l := []) (by kernel_rfl) trivial ?_
        refine ge_nil fun a hF => hK23 _ _ ?_ a hF
        refine we_block ?_
        have hS93 := hS92.nil (α := Int) 3
        have hS94 := hS93.bring 2 rfl
        have hS95 := hS94.bring 3 rfl
        have hS96 := hS95.bring 2 rfl
        have hS97 := hS96.bring 5 rfl
        have hS98 := hS97.bring 5 rfl
        have hS99 := hS98.bring 5 rfl
        rcases hq13 : iter (mach_Look.r1 K l0) K (0, ([] : List Int), (List.replicate l0.length (0 : Int)), ([] : List (Int × Int))) with _ | (⟨m12, m13, mp3⟩ | rr2)
        · rw [hq13] at h; cases h
        · rw [hq13] at h
          simp only [] at h
          refine we_iter (A := mach_Look.A1 K w0 l0 A0 c0 hR0 hL0 b1 b2 hc1 hc9 b4 Z7 cz7 b5) (B := mach_Look.B1 K w0 l0 A0 c0 hR0 hL0 b1 b2 hc1 hc9 b4 Z7 cz7 b5) hq13 (fun a hF => ⟨(.slice none 0 0), (.slice Z7 (List.replicate l0.length (0 : Int)).length cz7), hS99, hF.weaken ⟨by kernel_rfl, by kernel_rfl, by kernel_rfl, by kernel_rfl, by kernel_rfl, by kernel_rfl, by kernel_rfl, trivial⟩⟩) (fun s o hf a w hA Q hQ => mach_Look_r1 K w0 l0 A0 c0 hR0 hL0 b1 b2 hc1 hc9 b4 Z7 cz7 b5 s o hf a w hA Q hQ) ?_
          rintro _ a w34 _ ⟨rfl, v15, v16, hS130, hF⟩
          replace hS130 : St w0 w34 [Own.blk b5 (.cells #[.slice A0 l0.length c0, v15, v16, .map (some b4)] 143 (0, 0)), Own.blk b2 (.cells #[.int .i64 0, .int .i64 0] 40 (0, 0)), Own.blk b1 (.cells #[.slice none 0 0, .map none] 115 (0, 0)), Own.of v15 3 m12, Own.of v16 3 m13, Own.map (κ := Int) (ν := Int) b4 mp3] := hS130
          refine hK22 [(0, .slice A0 l0.length c0), (2, .pointer (some ⟨b1, 0, none⟩)), (3, .pointer (some ⟨b2, 0, none⟩)), (4, .func (.func 82) #[] #[]), (9, .pointer (some ⟨b5, 0, none⟩))] w34 ?_ a hF
          refine we_seq fun K31 hK31 => ?_
          refine we_seq fun K32 hK32 => ?_
          refine we_region [(0, 0), (1, 0), (2, 0), (3, 0), (4, 0), (5, 0)] rfl ?_
          refine ge_batch [0, 1, 2, 3] (ans := [.val (v15)]) (vs := [(105, v15), (104, .pointer (some ⟨b5, 1, none⟩)), (103, .pointer (some ⟨b5, 0, none⟩)), (102, .pointer (some ⟨b5, 0, none⟩))]) (l := [.loaded ⟨b5, 1, none⟩ (v15)]) (by kernel_rfl) ⟨hS130.cell 0 rfl rfl, trivial⟩ ?_
          obtain ⟨Z11, cz11, rfl⟩ := hS130.open 3 rfl
          refine ge_batch [4, 5] (ans := []) (vs := [(107, .bool (decide ((m12.length : Int) > 0))), (106, .int .i64 (m12.length : Int))]) (l := []) (by kernel_rfl) trivial ?_
          refine ge_nil fun a hF => hK32 _ _ ?_ a hF
          by_cases hc12 : (m12.length : Int) > 0
          · rw [if_pos hc12] at h
            refine we_known (t := 107) (b := decide ((m12.length : Int) > 0)) (v := true) (by kernel_rfl) (decide_eq_true hc12) ?_
            refine we_true (by kernel_rfl) ?_
            refine we_seq fun K33 hK33 => ?_
            refine we_seq fun K34 hK34 => ?_
            refine we_region [(0, 0), (1, 0), (2, 0), (3, 0), (4, 0), (5, 0), (6, 0), (7, 0), (8, 0), (9, 0), (10, 0)] rfl ?_
            refine ge_batch [0, 1, 2, 3, 4] (ans := [.val ((.slice Z11 m12.length cz11))]) (vs := [(112, (.slice Z11 m12.length cz11)), (111, .pointer (some ⟨b5, 1, none⟩)), (110, .pointer (some ⟨b5, 0, none⟩)), (109, .pointer (some ⟨b5, 0, none⟩)), (108, .slice A0 l0.length c0)]) (l := [.loaded ⟨b5, 1, none⟩ ((.slice Z11 m12.length cz11))]) (by kernel_rfl) ⟨hS130.cell 0 rfl rfl, trivial⟩ ?_
            rcases hx7 : m12[0]? with _ | e2
            · rw [hx7] at h; cases h
            rw [hx7] at h
            simp only [] at h
            refine ge_index (d := 113) (ty := 0) (t := 24) (el := 3) (sz := 1) (m := m12.length) (c := cz11) (x := (.tmp 112)) (y := (.const (.int .i64 0))) (A := Z11) (k' := .i64) (j := 0) (jn := 0) (b0 := blkOf Z11) (o0 := offOf Z11) (by kernel_rfl) (by kernel_rfl) (by kernel_rfl) (by kernel_rfl) (by kernel_rfl) ((hS130.rdAt 3 rfl).eqSome (pos_of_get hx7)) rfl (lt_of_get hx7) ?_
            refine ge_batch [6] (ans := [.val (.int .i64 e2)]) (vs := [(114, .int .i64 e2)]) (l := [.loaded ⟨blkOf Z11, offOf Z11 + 0 * 1, none⟩ (.int .i64 e2)]) (by kernel_rfl) ⟨RdL.cell (j := 0) (hS130.rdAt 3 rfl) hx7 rfl, trivial⟩ ?_
            by_cases hc13 : 0 ≤ e2
            · rw [if_pos hc13] at h
              rcases hx8 : l0[(e2).toNat]? with _ | e3
              · rw [hx8] at h; cases h
              rw [hx8] at h
              simp only [] at h
              refine ge_index (d := 115) (ty := 0) (t := 68) (el := 29) (sz := 3) (m := l0.length) (c := c0) (x := (.tmp 108)) (y := (.tmp 114)) (A := A0) (k' := .i64) (j := e2) (jn := ((e2).toNat)) (b0 := blkOf A0) (o0 := offOf A0) (by kernel_rfl) (by kernel_rfl) (by kernel_rfl) (by kernel_rfl) (by kernel_rfl) ((hS130.rd hR0).eqSome (pos_of_get hx8)) (Int.toNat_of_nonneg hc13).symm (lt_of_get hx8) ?_
              refine ge_batch [8, 9, 10] (ans := [.val (.int .i64 e3.Op)]) (vs := [(118, .bool (e3.Op == 13)), (117, .int .i64 e3.Op), (116, .pointer (some ⟨blkOf A0, offOf A0 + (e2).toNat * 3, none⟩))]) (l := [.loaded ⟨blkOf A0, offOf A0 + ((e2).toNat) * 3, none⟩ (.int .i64 e3.Op)]) (by kernel_rfl) ⟨RdL.cell (j := 0) (hS130.rd hR0) hx8 rfl, trivial⟩ ?_
              refine ge_nil fun a hF => hK34 _ _ ?_ a hF
              by_cases hc14 : e3.Op = 13
              · rw [if_pos hc14] at h
                refine we_known (t := 118) (b := (e3.Op == 13)) (v := true) (by kernel_rfl) (beq_iff_eq.2 hc14) ?_
                refine we_true (by kernel_rfl) ?_
                refine we_seq fun K35 hK35 => ?_
                refine we_region [(0, 0), (1, 0), (2, 0), (3, 0), (4, 0), (5, 0), (6, 0), (7, 1), (8, 0), (9, 0), (10, 2), (11, 2)] rfl ?_
                refine ge_batch [0, 1, 2, 3, 4] (ans := [.val ((.slice Z11 m12.length cz11))]) (vs := [(123, (.slice Z11 m12.length cz11)), (122, .pointer (some ⟨b5, 1, none⟩)), (121, .pointer (some ⟨b5, 0, none⟩)), (120, .pointer (some ⟨b5, 0, none⟩)), (119, .func (.func 82) #[] #[])]) (l := [.loaded ⟨b5, 1, none⟩ ((.slice Z11 m12.length cz11))]) (by kernel_rfl) ⟨hS130.cell 0 rfl rfl, trivial⟩ ?_
                refine ge_index (d := 124) (ty := 0) (t := 24) (el := 3) (sz := 1) (m := m12.length) (c := cz11) (x := (.tmp 123)) (y := (.const (.int .i64 0))) (A := Z11) (k' := .i64) (j := 0) (jn := 0) (b0 := blkOf Z11) (o0 := offOf Z11) (by kernel_rfl) (by kernel_rfl) (by kernel_rfl) (by kernel_rfl) (by kernel_rfl) ((hS130.rdAt 3 rfl).eqSome (pos_of_get hx7)) rfl (lt_of_get hx7) ?_
                refine ge_batch [6] (ans := [.val (.int .i64 e2)]) (vs := [(125, .int .i64 e2)]) (l := [.loaded ⟨blkOf Z11, offOf Z11 + 0 * 1, none⟩ (.int .i64 e2)]) (by kernel_rfl) ⟨RdL.cell (j := 0) (hS130.rdAt 3 rfl) hx7 rfl, trivial⟩ ?_
                refine ge_call (d := some 126) (f := 82) (args := #[.int .i64 9, .int .i64 e2]) (by kernel_rfl) (mach_Look_1_ok 9 e2 _ _ rfl) ?_
                rintro _ w35 ⟨v17, m14, rfl, hS131⟩
                refine ⟨_, rfl, hS131.below, ?_⟩
                have hS132 := hS130.call hS131
                refine ge_batch [8, 9] (ans := []) (vs := [(128, .agg #[.int .i64 (((mach_Look_1.f 9 e2).2).Code), .int .i64 (((mach_Look_1.f 9 e2).2).At)]), (127, .agg #[v17, .map m14])]) (l := []) (by kernel_rfl) trivial ?_
                obtain ⟨Z12, cz12, rfl⟩ := hS132.open 0 rfl
                have hS133 := hS132.bring 4 rfl
                refine ge_set (b := b1) (j := 0) (cs := #[.slice none 0 0, .map none]) (t := 115) (vs := [(.slice Z12 (((mach_Look_1.f 9 e2).1).In).length cz12), .map m14]) hS133 (by kernel_rfl) rfl rfl fun w36 hS134 => ?_
                have hS135 : St w0 w36 [Own.blk b1 (.cells #[(.slice Z12 (((mach_Look_1.f 9 e2).1).In).length cz12), .map m14] 115 (0, 0)), Own.of (.slice Z12 (((mach_Look_1.f 9 e2).1).In).length cz12) 3 (((mach_Look_1.f 9 e2).1).In), Own.mapv (κ := Int) (ν := Int) m14 (((mach_Look_1.f 9 e2).1).Close), Own.blk b5 (.cells #[.slice A0 l0.length c0, (.slice Z11 m12.length cz11), v16, .map (some b4)] 143 (0, 0)), Own.blk b2 (.cells #[.int .i64 0, .int .i64 0] 40 (0, 0)), Own.of (.slice Z11 m12.length cz11) 3 m12, Own.of v16 3 m13, Own.map (κ := Int) (ν := Int) b4 mp3] := hS134
                have hS136 := hS135.bring 4 rfl
                refine ge_set (b := b2) (j := 0) (cs := #[.int .i64 0, .int .i64 0]) (t := 40) (vs := [.int .i64 (((mach_Look_1.f 9 e2).2).Code), .int .i64 (((mach_Look_1.f 9 e2).2).At)]) hS136 (by kernel_rfl) rfl rfl fun w37 hS137 => ?_
                have hS138 : St w0 w37 [Own.blk b2 (.cells #[.int .i64 (((mach_Look_1.f 9 e2).2).Code), .int .i64 (((mach_Look_1.f 9 e2).2).At)] 40 (0, 0)), Own.blk b1 (.cells #[(.slice Z12 (((mach_Look_1.f 9 e2).1).In).length cz12), .map m14] 115 (0, 0)), Own.of (.slice Z12 (((mach_Look_1.f 9 e2).1).In).length cz12) 3 (((mach_Look_1.f 9 e2).1).In), Own.mapv (κ := Int) (ν := Int) m14 (((mach_Look_1.f 9 e2).1).Close), Own.blk b5 (.cells #[.slice A0 l0.length c0, (.slice Z11 m12.length cz11), v16, .map (some b4)] 143 (0, 0)), Own.of (.slice Z11 m12.length cz11) 3 m12, Own.of v16 3 m13, Own.map (κ := Int) (ν := Int) b4 mp3] := hS137
                refine ge_nil fun a hF => hK35 _ _ ?_ a hF
                have hS139 := hS138.bring 3 rfl
                have hS140 := hS139.bring 3 rfl
                have hS141 := hS140.takeN 2
                obtain rfl := Option.some.inj h
                exact we_ret (post_ret (rs := [.cell 2 115, .cell 3 40]) (ans := [.val ((.slice Z12 (((mach_Look_1.f 9 e2).1).In).length cz12)), .val (.map m14), .val (.int .i64 (((mach_Look_1.f 9 e2).2).Code)), .val (.int .i64 (((mach_Look_1.f 9 e2).2).At))]) (vs := [.agg #[(.slice Z12 (((mach_Look_1.f 9 e2).1).In).length cz12), .map m14], .agg #[.int .i64 (((mach_Look_1.f 9 e2).2).Code), .int .i64 (((mach_Look_1.f 9 e2).2).At)]]) (l := [.loaded ⟨b1, 0, none⟩ ((.slice Z12 (((mach_Look_1.f 9 e2).1).In).length cz12)), .loaded ⟨b1, 1, none⟩ (.map m14), .loaded ⟨b2, 0, none⟩ (.int .i64 (((mach_Look_1.f 9 e2).2).Code)), .loaded ⟨b2, 1, none⟩ (.int .i64 (((mach_Look_1.f 9 e2).2).At))]) rfl (by kernel_rfl) ⟨hS138.cell 1 rfl rfl, hS138.cell 1 rfl rfl, hS138.cell 0 rfl rfl, hS138.cell 0 rfl rfl, trivial⟩ ⟨(.slice Z12 (((mach_Look_1.f 9 e2).1).In).length cz12), m14, rfl, hS141⟩)
              · rw [if_neg hc14] at h
                refine we_known (t := 118) (b := (e3.Op == 13)) (v := false) (by kernel_rfl) (beq_eq_false_iff_ne.2 hc14) ?_
                refine we_false (by kernel_rfl) ?_
                refine we_skip fun a hF => hK33 _ _ ?_ a hF
                refine we_seq fun K36 hK36 => ?_
                refine we_region [(0, 0), (1, 0), (2, 0), (3, 0), (4, 0), (5, 0), (6, 0), (7, 1), (8, 0), (9, 0), (10, 2), (11, 2)] rfl ?_
                refine ge_batch [0, 1, 2, 3, 4] (ans := [.val ((.slice Z11 m12.length cz11))]) (vs := [(133, (.slice Z11 m12.length cz11)), (132, .pointer (some ⟨b5, 1, none⟩)), (131, .pointer (some ⟨b5, 0, none⟩)), (130, .pointer (some ⟨b5, 0, none⟩)), (129, .func (.func 82) #[] #[])]) (l := [.loaded ⟨b5, 1, none⟩ ((.slice Z11 m12.length cz11))]) (by kernel_rfl) ⟨hS130.cell 0 rfl rfl, trivial⟩ ?_
                refine ge_index (d := 134) (ty := 0) (t := 24) (el := 3) (sz := 1) (m := m12.length) (c := cz11) (x := (.tmp 133)) (y := (.const (.int .i64 0))) (A := Z11) (k' := .i64) (j := 0) (jn := 0) (b0 := blkOf Z11) (o0 := offOf Z11) (by kernel_rfl) (by kernel_rfl) (by kernel_rfl) (by kernel_rfl) (by kernel_rfl) ((hS130.rdAt 3 rfl).eqSome (pos_of_get hx7)) rfl (lt_of_get hx7) ?_
                refine ge_batch [6] (ans := [.val (.int .i64 e2)]) (vs := [(135, .int .i64 e2)]) (l := [.loaded ⟨blkOf Z11, offOf Z11 + 0 * 1, none⟩ (.int .i64 e2)]) (by kernel_rfl) ⟨RdL.cell (j := 0) (hS130.rdAt 3 rfl) hx7 rfl, trivial⟩ ?_
                refine ge_call (d := some 136) (f := 82) (args := #[.int .i64 10, .int .i64 e2]) (by kernel_rfl) (mach_Look_1_ok 10 e2 _ _ rfl) ?_
                rintro _ w38 ⟨v18, m15, rfl, hS142⟩
                refine ⟨_, rfl, hS142.below, ?_⟩
                have hS143 := hS130.call hS142
                refine ge_batch [8, 9] (ans := []) (vs := [(138, .agg #[.int .i64 (((mach_Look_1.f 10 e2).2).Code), .int .i64 (((mach_Look_1.f 10 e2).2).At)]), (137, .agg #[v18, .map m15])]) (l := []) (by kernel_rfl) trivial ?_
                obtain ⟨Z13, cz13, rfl⟩ := hS143.open 0 rfl
                have hS144 := hS143.bring 4 rfl
                refine ge_set (b := b1) (j := 0) (cs := #[.slice none 0 0, .map none]) (t := 115) (vs := [(.slice Z13 (((mach_Look_1.f 10 e2).1).In).length cz13), .map m15]) hS144 (by kernel_rfl) rfl rfl fun w39 hS145 => ?_
                have hS146 : St w0 w39 [Own.blk b1 (.cells #[(.slice Z13 (((mach_Look_1.f 10 e2).1).In).length cz13), .map m15] 115 (0, 0)), Own.of (.slice Z13 (((mach_Look_1.f 10 e2).1).In).length cz13) 3 (((mach_Look_1.f 10 e2).1).In), Own.mapv (κ := Int) (ν := Int) m15 (((mach_Look_1.f 10 e2).1).Close), Own.blk b5 (.cells #[.slice A0 l0.length c0, (.slice Z11 m12.length cz11), v16, .map (some b4)] 143 (0, 0)), Own.blk b2 (.cells #[.int .i64 0, .int .i64 0] 40 (0, 0)), Own.of (.slice Z11 m12.length cz11) 3 m12, Own.of v16 3 m13, Own.map (κ := Int) (ν := Int) b4 mp3] := hS145
                have hS147 := hS146.bring 4 rfl
                refine ge_set (b := b2) (j := 0) (cs := #[.int .i64 0, .int .i64 0]) (t := 40) (vs := [.int .i64 (((mach_Look_1.f 10 e2).2).Code), .int .i64 (((mach_Look_1.f 10 e2).2).At)]) hS147 (by kernel_rfl) rfl rfl fun w40 hS148 => ?_
                have hS149 : St w0 w40 [Own.blk b2 (.cells #[.int .i64 (((mach_Look_1.f 10 e2).2).Code), .int .i64 (((mach_Look_1.f 10 e2).2).At)] 40 (0, 0)), Own.blk b1 (.cells #[(.slice Z13 (((mach_Look_1.f 10 e2).1).In).length cz13), .map m15] 115 (0, 0)), Own.of (.slice Z13 (((mach_Look_1.f 10 e2).1).In).length cz13) 3 (((mach_Look_1.f 10 e2).1).In), Own.mapv (κ := Int) (ν := Int) m15 (((mach_Look_1.f 10 e2).1).Close), Own.blk b5 (.cells #[.slice A0 l0.length c0, (.slice Z11 m12.length cz11), v16, .map (some b4)] 143 (0, 0)), Own.of (.slice Z11 m12.length cz11) 3 m12, Own.of v16 3 m13, Own.map (κ := Int) (ν := Int) b4 mp3] := hS148
                refine ge_nil fun a hF => hK36 _ _ ?_ a hF
                have hS150 := hS149.bring 3 rfl
                have hS151 := hS150.bring 3 rfl
                have hS152 := hS151.takeN 2
                obtain rfl := Option.some.inj h
                exact we_ret (post_ret (rs := [.cell 2 115, .cell 3 40]) (ans := [.val ((.slice Z13 (((mach_Look_1.f 10 e2).1).In).length cz13)), .val (.map m15), .val (.int .i64 (((mach_Look_1.f 10 e2).2).Code)), .val (.int .i64 (((mach_Look_1.f 10 e2).2).At))]) (vs := [.agg #[(.slice Z13 (((mach_Look_1.f 10 e2).1).In).length cz13), .map m15], .agg #[.int .i64 (((mach_Look_1.f 10 e2).2).Code), .int .i64 (((mach_Look_1.f 10 e2).2).At)]]) (l := [.loaded ⟨b1, 0, none⟩ ((.slice Z13 (((mach_Look_1.f 10 e2).1).In).length cz13)), .loaded ⟨b1, 1, none⟩ (.map m15), .loaded ⟨b2, 0, none⟩ (.int .i64 (((mach_Look_1.f 10 e2).2).Code)), .loaded ⟨b2, 1, none⟩ (.int .i64 (((mach_Look_1.f 10 e2).2).At))]) rfl (by kernel_rfl) ⟨hS149.cell 1 rfl rfl, hS149.cell 1 rfl rfl, hS149.cell 0 rfl rfl, hS149.cell 0 rfl rfl, trivial⟩ ⟨(.slice Z13 (((mach_Look_1.f 10 e2).1).In).length cz13), m15, rfl, hS152⟩)
            · rw [if_neg hc13] at h
              cases h
          · rw [if_neg hc12] at h
            refine we_known (t := 107) (b := decide ((m12.length : Int) > 0)) (v := false) (by kernel_rfl) (decide_eq_false hc12) ?_
            refine we_false (by kernel_rfl) ?_
            refine we_skip fun a hF => hK31 _ _ ?_ a hF
            refine we_seq fun K37 hK37 => ?_
            refine we_seq fun K38 hK38 => ?_
            refine we_region [(0, 0), (1, 0), (2, 0)] rfl ?_
            refine ge_batch [0, 1, 2] (ans := []) (vs := [(141, .int .i64 0), (140, .int .i64 (l0.length : Int)), (139, .slice A0 l0.length c0)]) (l := []) (by kernel_rfl) trivial ?_
            refine ge_nil fun a hF => hK38 _ _ ?_ a hF
            refine we_block ?_
            obtain ⟨Z14, cz14, rfl⟩ := hS130.open 4 rfl
            have hS153 := hS130.bring 5 rfl
            have hS154 := hS153.bring 5 rfl
            have hS155 := hS154.bring 5 rfl
            have hS156 := hS155.bring 5 rfl
            have hS157 := hS156.bring 5 rfl
            have hS158 := hS157.bring 5 rfl
            rcases hq28 : iter (mach_Look.r2 l0 m13) K 0 with _ | (_ | rr1)
            · rw [hq28] at h; cases h
            · rw [hq28] at h
              simp only [] at h
              refine we_iter (A := mach_Look.A2 K w0 l0 A0 c0 hR0 hL0 b1 b2 hc1 hc9 b4 Z7 cz7 b5 m12 m13 mp3 Z11 cz11 hc12 Z14 cz14) (B := mach_Look.B2 K w0 l0 A0 c0 hR0 hL0 b1 b2 hc1 hc9 b4 Z7 cz7 b5 m12 m13 mp3 Z11 cz11 hc12 Z14 cz14) hq28 (fun a hF => ⟨hS158, hF.weaken ⟨by kernel_rfl, by kernel_rfl, by kernel_rfl, by kernel_rfl, by kernel_rfl, by kernel_rfl, by kernel_rfl, by kernel_rfl, trivial⟩⟩) (fun s o hf a w hA Q hQ => mach_Look_r2 K w0 l0 A0 c0 hR0 hL0 b1 b2 hc1 hc9 b4 Z7 cz7 b5 m12 m13 mp3 Z11 cz11 hc12 Z14 cz14 s o hf a w hA Q hQ) ?_
              rintro _ a w79 _ ⟨rfl, hS337, hF⟩
              replace hS337 : St w0 w79 [Own.blk b5 (.cells #[.slice A0 l0.length c0, (.slice Z11 m12.length cz11), (.slice Z14 m13.length cz14), .map (some b4)] 143 (0, 0)), Own.blk b2 (.cells #[.int .i64 0, .int .i64 0] 40 (0, 0)), Own.blk b1 (.cells #[.slice none 0 0, .map none] 115 (0, 0)), Own.of (.slice Z11 m12.length cz11) 3 m12, Own.of (.slice Z14 m13.length cz14) 3 m13, Own.map (κ := Int) (ν := Int) b4 mp3] := hS337
              refine hK37 [(0, .slice A0 l0.length c0), (2, .pointer (some ⟨b1, 0, none⟩)), (3, .pointer (some ⟨b2, 0, none⟩)), (9, .pointer (some ⟨b5, 0, none⟩))] w79 ?_ a hF
              refine we_seq fun K67 hK67 => ?_
              refine we_seq fun K68 hK68 => ?_
              refine we_region [(0, 0), (1, 1), (2, 1), (3, 2)] rfl ?_
              rcases hq29 : mach_heights.f K l0 with _ | r3
              · rw [hq29] at h; cases h
              rw [hq29] at h
              simp only [] at h
              refine ge_batch [0] (ans := []) (vs := [(197, .slice A0 l0.length c0)]) (l := []) (by kernel_rfl) trivial ?_
              refine ge_call (d := some 198) (f := 86) (args := #[.slice A0 l0.length c0]) (by kernel_rfl) (mach_heights_ok K l0 A0 c0 _ (hS337.rd hR0) hL0 _ hq29) ?_
              rintro _ w80 ⟨rfl, hS338⟩
              refine ⟨_, rfl, hS338.below, ?_⟩
              have hS339 := hS337.call hS338
              refine ge_new (d := some 15) (o := .cells #[.int .i64 0, .int .i64 0] 40) (v := fun b => .pointer (some ⟨b, 0, none⟩)) hS339 (fun b => by kernel_rfl) fun b7 w81 hx17 hS340 => ?_
              refine ge_set (b := b7) (j := 0) (cs := #[.int .i64 0, .int .i64 0]) (t := 40) (vs := [.int .i64 r3.Code, .int .i64 r3.At]) hS340 (by kernel_rfl) rfl rfl fun w82 hS341 => ?_
              have hS342 : St w0 w82 [Own.blk b7 (.cells #[.int .i64 r3.Code, .int .i64 r3.At] 40 (0, 0)), Own.blk b5 (.cells #[.slice A0 l0.length c0, (.slice Z11 m12.length cz11), (.slice Z14 m13.length cz14), .map (some b4)] 143 (0, 0)), Own.blk b2 (.cells #[.int .i64 0, .int .i64 0] 40 (0, 0)), Own.blk b1 (.cells #[.slice none 0 0, .map none] 115 (0, 0)), Own.of (.slice Z11 m12.length cz11) 3 m12, Own.of (.slice Z14 m13.length cz14) 3 m13, Own.map (κ := Int) (ν := Int) b4 mp3] := hS341
              refine ge_nil fun a hF => hK68 _ _ ?_ a hF
              refine we_seq fun K69 hK69 => ?_
              refine we_region [(0, 0), (1, 0), (2, 0)] rfl ?_
              refine ge_batch [0, 1, 2] (ans := [.val (.int .i64 r3.Code)]) (vs := [(201, .bool (r3.Code != 0)), (200, .int .i64 r3.Code), (199, .pointer (some ⟨b7, 0, none⟩))]) (l := [.loaded ⟨b7, 0, none⟩ (.int .i64 r3.Code)]) (by kernel_rfl) ⟨hS342.cell 0 rfl rfl, trivial⟩ ?_
              refine ge_nil fun a hF => hK69 _ _ ?_ a hF
              by_cases hc34 : r3.Code = 0
              · rw [if_pos hc34] at h
                refine we_known (t := 201) (b := (r3.Code != 0)) (v := false) (by kernel_rfl) (bne_eq_false_iff_eq.2 hc34) ?_
                refine we_false (by kernel_rfl) ?_
                refine we_skip fun a hF => hK67 _ _ ?_ a hF
                refine we_seq fun K70 hK70 => ?_
                refine we_region [(0, 0), (1, 0), (2, 0), (3, 0), (4, 0), (5, 2), (6, 2)] rfl ?_
                refine ge_batch [0, 1, 2, 3, 4] (ans := [.val ((.slice Z14 m13.length cz14)), .val (.map (some b4))]) (vs := [(208, .agg #[.int .i64 0, .int .i64 0]), (207, .agg #[(.slice Z14 m13.length cz14), .map (some b4)]), (206, .pointer (some ⟨b5, 2, none⟩)), (205, .pointer (some ⟨b5, 0, none⟩)), (204, .pointer (some ⟨b5, 0, none⟩))]) (l := [.loaded ⟨b5, 2, none⟩ ((.slice Z14 m13.length cz14)), .loaded ⟨b5, 3, none⟩ (.map (some b4))]) (by kernel_rfl) ⟨hS342.cell 1 rfl rfl, hS342.cell 1 rfl rfl, trivial⟩ ?_
                have hS343 := hS342.bring 3 rfl
                refine ge_set (b := b1) (j := 0) (cs := #[.slice none 0 0, .map none]) (t := 115) (vs := [(.slice Z14 m13.length cz14), .map (some b4)]) hS343 (by kernel_rfl) rfl rfl fun w83 hS344 => ?_
                have hS345 : St w0 w83 [Own.blk b1 (.cells #[(.slice Z14 m13.length cz14), .map (some b4)] 115 (0, 0)), Own.blk b7 (.cells #[.int .i64 r3.Code, .int .i64 r3.At] 40 (0, 0)), Own.blk b5 (.cells #[.slice A0 l0.length c0, (.slice Z11 m12.length cz11), (.slice Z14 m13.length cz14), .map (some b4)] 143 (0, 0)), Own.blk b2 (.cells #[.int .i64 0, .int .i64 0] 40 (0, 0)), Own.of (.slice Z11 m12.length cz11) 3 m12, Own.of (.slice Z14 m13.length cz14) 3 m13, Own.map (κ := Int) (ν := Int) b4 mp3] := hS344
                have hS346 := hS345.bring 3 rfl
                refine ge_set (b := b2) (j := 0) (cs := #[.int .i64 0, .int .i64 0]) (t := 40) (vs := [.int .i64 0, .int .i64 0]) hS346 (by kernel_rfl) rfl rfl fun w84 hS347 => ?_
                have hS348 : St w0 w84 [Own.blk b2 (.cells #[.int .i64 0, .int .i64 0] 40 (0, 0)), Own.blk b1 (.cells #[(.slice Z14 m13.length cz14), .map (some b4)] 115 (0, 0)), Own.blk b7 (.cells #[.int .i64 r3.Code, .int .i64 r3.At] 40 (0, 0)), Own.blk b5 (.cells #[.slice A0 l0.length c0, (.slice Z11 m12.length cz11), (.slice Z14 m13.length cz14), .map (some b4)] 143 (0, 0)), Own.of (.slice Z11 m12.length cz11) 3 m12, Own.of (.slice Z14 m13.length cz14) 3 m13, Own.map (κ := Int) (ν := Int) b4 mp3] := hS347
                refine ge_nil fun a hF => hK70 _ _ ?_ a hF
                have hS349 := hS348.bring 6 rfl
                have hS350 := hS349.bring 6 rfl
                have hS351 := hS350.takeN 2
                obtain rfl := Option.some.inj h
                exact we_ret (post_ret (rs := [.cell 2 115, .cell 3 40]) (ans := [.val ((.slice Z14 m13.length cz14)), .val (.map (some b4)), .val (.int .i64 0), .val (.int .i64 0)]) (vs := [.agg #[(.slice Z14 m13.length cz14), .map (some b4)], .agg #[.int .i64 0, .int .i64 0]]) (l := [.loaded ⟨b1, 0, none⟩ ((.slice Z14 m13.length cz14)), .loaded ⟨b1, 1, none⟩ (.map (some b4)), .loaded ⟨b2, 0, none⟩ (.int .i64 0), .loaded ⟨b2, 1, none⟩ (.int .i64 0)]) rfl (by kernel_rfl) ⟨hS348.cell 1 rfl rfl, hS348.cell 1 rfl rfl, hS348.cell 0 rfl rfl, hS348.cell 0 rfl rfl, trivial⟩ ⟨(.slice Z14 m13.length cz14), (some b4), rfl, hS351⟩)
              · rw [if_neg hc34] at h
                refine we_known (t := 201) (b := (r3.Code != 0)) (v := true) (by kernel_rfl) (bne_iff_ne.2 hc34) ?_
                refine we_true (by kernel_rfl) ?_
                refine we_seq fun K71 hK71 => ?_
                refine we_orders2 (by kernel_rfl) [(1, [⟨b7, 0, none⟩, ⟨b7, 1, none⟩])] (.vals [0] (.vals [1] (.alt 2 2 (.alt 3 2 .fin .nomore) .nomore))) (by kernel_rfl) ?_
                have hS352 := hS342.drew
                refine go2_batch [0] (ans := []) (vs := [(202, .agg #[.slice none 0 0, .map none])]) (l := []) (by kernel_rfl) trivial mem_nil ?_
                refine go2_batch [1] (ans := [.val (.int .i64 r3.Code), .val (.int .i64 r3.At)]) (vs := [(203, .agg #[.int .i64 r3.Code, .int .i64 r3.At])]) (l := [.loaded ⟨b7, 0, none⟩ (.int .i64 r3.Code), .loaded ⟨b7, 1, none⟩ (.int .i64 r3.At)]) (by kernel_rfl) ⟨hS352.cell 0 rfl rfl, hS352.cell 0 rfl rfl, trivial⟩ (mem_one (by kernel_rfl)) ?_
                refine go_alt2 (fun KK hKK => ?_) ?_
                · have hS353 := hS352.bring 3 rfl
                  refine ge_set (b := b1) (j := 0) (cs := #[.slice none 0 0, .map none]) (t := 115) (vs := [.slice none 0 0, .map none]) hS353 (by kernel_rfl) rfl rfl fun w85 hS354 => ?_
                  have hS355 : St w0 w85 [Own.blk b1 (.cells #[.slice none 0 0, .map none] 115 (0, 0)), Own.blk b7 (.cells #[.int .i64 r3.Code, .int .i64 r3.At] 40 (0, 0)), Own.blk b5 (.cells #[.slice A0 l0.length c0, (.slice Z11 m12.length cz11), (.slice Z14 m13.length cz14), .map (some b4)] 143 (0, 0)), Own.blk b2 (.cells #[.int .i64 0, .int .i64 0] 40 (0, 0)), Own.of (.slice Z11 m12.length cz11) 3 m12, Own.of (.slice Z14 m13.length cz14) 3 m13, Own.map (κ := Int) (ν := Int) b4 mp3] := hS354
                  refine ge_nil fun a hF => hKK _ _ (RS.of2 (l := [.loaded ⟨b7, 0, none⟩ (.int .i64 r3.Code), .loaded ⟨b7, 1, none⟩ (.int .i64 r3.At)]) (by kernel_rfl) ⟨hS352.cell 0 rfl rfl, hS352.cell 0 rfl rfl, trivial⟩ ⟨hS355.cell 1 rfl rfl, hS355.cell 1 rfl rfl, trivial⟩) ?_ a hF
                  refine go_alt2 (fun KK hKK => ?_) ?_
                  · have hS356 := hS355.bring 3 rfl
                    refine ge_set (b := b2) (j := 0) (cs := #[.int .i64 0, .int .i64 0]) (t := 40) (vs := [.int .i64 r3.Code, .int .i64 r3.At]) hS356 (by kernel_rfl) rfl rfl fun w86 hS357 => ?_
                    have hS358 : St w0 w86 [Own.blk b2 (.cells #[.int .i64 r3.Code, .int .i64 r3.At] 40 (0, 0)), Own.blk b1 (.cells #[.slice none 0 0, .map none] 115 (0, 0)), Own.blk b7 (.cells #[.int .i64 r3.Code, .int .i64 r3.At] 40 (0, 0)), Own.blk b5 (.cells #[.slice A0 l0.length c0, (.slice Z11 m12.length cz11), (.slice Z14 m13.length cz14), .map (some b4)] 143 (0, 0)), Own.of (.slice Z11 m12.length cz11) 3 m12, Own.of (.slice Z14 m13.length cz14) 3 m13, Own.map (κ := Int) (ν := Int) b4 mp3] := hS357
                    refine ge_nil fun a hF => hKK _ _ (RS.of2 (l := []) (by kernel_rfl) trivial trivial) ?_ a hF
                    refine go_fin2 fun a hF => hK71 _ _ ?_ a hF
                    have hS359 := hS358.nil (α := Int) 3
                    have hS360 := hS359.nilMap (κ := Int) (ν := Int)
                    have hS361 := hS360.bring 1 rfl
                    have hS362 := hS361.takeN 2
                    obtain rfl := Option.some.inj h
                    exact we_ret (post_ret (rs := [.cell 2 115, .cell 3 40]) (ans := [.val ((.slice none 0 0)), .val (.map none), .val (.int .i64 r3.Code), .val (.int .i64 r3.At)]) (vs := [.agg #[(.slice none 0 0), .map none], .agg #[.int .i64 r3.Code, .int .i64 r3.At]]) (l := [.loaded ⟨b1, 0, none⟩ ((.slice none 0 0)), .loaded ⟨b1, 1, none⟩ (.map none), .loaded ⟨b2, 0, none⟩ (.int .i64 r3.Code), .loaded ⟨b2, 1, none⟩ (.int .i64 r3.At)]) rfl (by kernel_rfl) ⟨hS360.cell 3 rfl rfl, hS360.cell 3 rfl rfl, hS360.cell 2 rfl rfl, hS360.cell 2 rfl rfl, trivial⟩ ⟨(.slice none 0 0), none, rfl, hS362⟩)
                  exact go_nomore2
                exact go_nomore2
            · rw [hq28] at h
              simp only [] at h
              refine we_iter (A := mach_Look.A2 K w0 l0 A0 c0 hR0 hL0 b1 b2 hc1 hc9 b4 Z7 cz7 b5 m12 m13 mp3 Z11 cz11 hc12 Z14 cz14) (B := mach_Look.B2 K w0 l0 A0 c0 hR0 hL0 b1 b2 hc1 hc9 b4 Z7 cz7 b5 m12 m13 mp3 Z11 cz11 hc12 Z14 cz14) hq28 (fun a hF => ⟨hS158, hF.weaken ⟨by kernel_rfl, by kernel_rfl, by kernel_rfl, by kernel_rfl, by kernel_rfl, by kernel_rfl, by kernel_rfl, by kernel_rfl, trivial⟩⟩) (fun s o hf a w hA Q hQ => mach_Look_r2 K w0 l0 A0 c0 hR0 hL0 b1 b2 hc1 hc9 b4 Z7 cz7 b5 m12 m13 mp3 Z11 cz11 hc12 Z14 cz14 s o hf a w hA Q hQ) ?_
              rintro _ a w1 _ ⟨rfl, hb⟩
              obtain rfl := Option.some.inj h
              exact hb
        · rw [hq13] at h
          simp only [] at h
          refine we_iter (A := mach_Look.A1 K w0 l0 A0 c0 hR0 hL0 b1 b2 hc1 hc9 b4 Z7 cz7 b5) (B := mach_Look.B1 K w0 l0 A0 c0 hR0 hL0 b1 b2 hc1 hc9 b4 Z7 cz7 b5) hq13 (fun a hF => ⟨(.slice none 0 0), (.slice Z7 (List.replicate l0.length (0 : Int)).length cz7), hS99, hF.weaken ⟨by kernel_rfl, by kernel_rfl, by kernel_rfl, by kernel_rfl, by kernel_rfl, by kernel_rfl, by kernel_rfl, trivial⟩⟩) (fun s o hf a w hA Q hQ => mach_Look_r1 K w0 l0 A0 c0 hR0 hL0 b1 b2 hc1 hc9 b4 Z7 cz7 b5 s o hf a w hA Q hQ) ?_
          rintro _ a w1 _ ⟨rfl, hb⟩
          obtain rfl := Option.some.inj h
          exact hb
      · rw [if_neg hc9] at h
        cases h
    · rw [hq10] at h
      simp only [] at h
      refine we_iter (A := mach_Look.A0 K w0 l0 A0 c0 hR0 hL0 b1 b2 hc1) (B := mach_Look.B0 K w0 l0 A0 c0 hR0 hL0 b1 b2 hc1) hq10 (fun a hF => ⟨hS15, hF.weaken ⟨by kernel_rfl, by kernel_rfl, by kernel_rfl, by kernel_rfl, by kernel_rfl, by kernel_rfl, by kernel_rfl, trivial⟩⟩) (fun s o hf a w hA Q hQ => mach_Look_r0 K w0 l0 A0 c0 hR0 hL0 b1 b2 hc1 s o hf a w hA Q hQ) ?_
      rintro _ a w1 _ ⟨rfl, hb⟩
      obtain rfl := Option.some.inj h
      exact hb

/-! punctual/wcet.at -/
theorem wcet_at_ok (l0 : List Int) (A0 : Option Addr) (c0 : Nat) (w0 : World) (hR0 : RdL w0 A0 l0) (hL0 : l0.length ≤ c0) : Calls Try.prog 64 #[.slice A0 l0.length c0] w0 (fun e w => ∃ (b0 : Nat), e = .returned (.func (.func 87) #[] #[.pointer (some ⟨b0, 0, none⟩)]) ∧ St w0 w [Own.blk b0 (.cells #[.slice A0 l0.length c0] 24 (0, 0))]) := by
  have hS := St.start w0
  refine calls_enter (n := 4) (args := [.slice A0 l0.length c0]) (fn := Try.f64) rfl rfl rfl rfl ?_
  show WE _ _ _ _ [(0, .slice A0 l0.length c0)] _
  refine we_seq fun K1 hK1 => ?_
  refine we_region [(0, 1), (1, 0)] rfl ?_
  refine ge_new (d := some 1) (o := .cells #[.slice A0 l0.length c0] 24) (v := fun b => .pointer (some ⟨b, 0, none⟩)) hS (fun b => by kernel_rfl) fun b1 w1 hx1 hS1 => ?_
  refine ge_batch [1] (ans := []) (vs := [(2, .nilFunc)]) (l := []) (by kernel_rfl) trivial ?_
  refine ge_nil fun a hF => hK1 _ _ ?_ a hF
  refine we_seq fun K2 hK2 => ?_
  refine we_region [(0, 0), (1, 0)] rfl ?_
  refine ge_batch [0, 1] (ans := []) (vs := [(2, .func (.func 87) #[] #[.pointer (some ⟨b1, 0, none⟩)]), (3, .func (.func 87) #[] #[.pointer (some ⟨b1, 0, none⟩)])]) (l := []) (by kernel_rfl) trivial ?_
  refine ge_nil fun a hF => hK2 _ _ ?_ a hF
  exact we_ret (post_ret (rs := [.tmp 2]) (ans := []) (vs := [.func (.func 87) #[] #[.pointer (some ⟨b1, 0, none⟩)]]) (l := []) rfl (by kernel_rfl) trivial ⟨b1, rfl, hS1⟩)

/-! punctual/mach.Cost -/
abbrev mach_Cost.Post (w0 : World) (r : Int) (e : Ending) (w : World) : Prop := e = .returned (.int .i64 r) ∧ St w0 w []
def mach_Cost.f (x0 : SIns) (x1 : Bool) : Int :=
  if x0.Op = 6 then
    3
  else
    if x0.Op = 9 then
      2
    else
      if x0.Op = 10 then
        2
      else
        if x0.Op = 11 then
          2
        else
          if x0.Op = 12 then
            if x1 = true then
              2
            else
              1
          else
            if x0.Op = 14 then
              if x1 = true then
                2
              else
                1
            else
              if x0.Op = 18 then
                x0.A
              else
                1
theorem mach_Cost_ok (x0 : SIns) (x1 : Bool) (w0 : World) (r : Int) (h : mach_Cost.f x0 x1 = r) :
    Calls Try.prog 12 #[.agg #[.int .i64 x0.Op, .int .i64 x0.A, .int .i64 x0.B], .bool x1] w0 (mach_Cost.Post w0 r) := by
  have hS := St.start w0
  unfold mach_Cost.f at h
  refine calls_enter (n := 21) (args := [.agg #[.int .i64 x0.Op, .int .i64 x0.A, .int .i64 x0.B], .bool x1]) (fn := Try.f12) rfl rfl rfl rfl ?_
  show WE _ _ _ _ [(0, .agg #[.int .i64 x0.Op, .int .i64 x0.A, .int .i64 x0.B]), (1, .bool x1)] _
  refine we_seq fun K1 hK1 => ?_
  refine we_region [(0, 1), (1, 0)] rfl ?_
  refine ge_new (d := some 2) (o := .cells #[.int .i64 x0.Op, .int .i64 x0.A, .int .i64 x0.B] 29) (v := fun b => .pointer (some ⟨b, 0, none⟩)) hS (fun b => by kernel_rfl) fun b1 w1 hx1 hS1 => ?_
  refine ge_batch [1] (ans := []) (vs := [(4, .int .i64 0)]) (l := []) (by kernel_rfl) trivial ?_
  refine ge_nil fun a hF => hK1 _ _ ?_ a hF
  refine we_seq fun K2 hK2 => ?_
  refine we_seq fun K3 hK3 => ?_
  refine we_region [(0, 0), (1, 0)] rfl ?_
  refine ge_batch [0, 1] (ans := [.val (.int .i64 x0.Op)]) (vs := [(6, .int .i64 x0.Op), (5, .pointer (some ⟨b1, 0, none⟩))]) (l := [.loaded ⟨b1, 0, none⟩ (.int .i64 x0.Op)]) (by kernel_rfl) ⟨hS1.cell 0 rfl rfl, trivial⟩ ?_
  refine ge_nil fun a hF => hK3 _ _ ?_ a hF
  refine we_block ?_
  refine we_seq fun K4 hK4 => ?_
  refine we_region [(0, 0), (1, 0)] rfl ?_
  refine ge_batch [0, 1] (ans := []) (vs := [(7, .bool (x0.Op == 6)), (8, .bool (x0.Op == 6))]) (l := []) (by kernel_rfl) trivial ?_
  refine ge_nil fun a hF => hK4 _ _ ?_ a hF
  by_cases hc1 : x0.Op = 6
  · rw [if_pos hc1] at h
    refine we_known (t := 7) (b := (x0.Op == 6)) (v := true) (by kernel_rfl) (beq_iff_eq.2 hc1) ?_
    refine we_true (by kernel_rfl) ?_
    refine we_seq fun K5 hK5 => ?_
    refine we_region [(0, 0)] rfl ?_
    refine ge_batch [0] (ans := []) (vs := [(4, .int .i64 3)]) (l := []) (by kernel_rfl) trivial ?_
    refine ge_nil fun a hF => hK5 _ _ ?_ a hF
    have hS2 := hS1.takeN 0
    subst h
    exact we_ret (post_ret (rs := [.tmp 4]) (ans := []) (vs := [.int .i64 3]) (l := []) rfl (by kernel_rfl) trivial ⟨rfl, hS2⟩)
  · rw [if_neg hc1] at h
    refine we_known (t := 7) (b := (x0.Op == 6)) (v := false) (by kernel_rfl) (beq_eq_false_iff_ne.2 hc1) ?_
    refine we_false (by kernel_rfl) ?_
    refine we_seq fun K6 hK6 => ?_
    refine we_seq fun K7 hK7 => ?_
    refine we_region [(0, 0), (1, 0)] rfl ?_
    refine ge_batch [0, 1] (ans := []) (vs := [(9, .bool (x0.Op == 9)), (10, .bool (x0.Op == 9))]) (l := []) (by kernel_rfl) trivial ?_
    refine ge_nil fun a hF => hK7 _ _ ?_ a hF
    by_cases hc2 : x0.Op = 9
    · rw [if_pos hc2] at h
      refine we_known (t := 9) (b := (x0.Op == 9)) (v := true) (by kernel_rfl) (beq_iff_eq.2 hc2) ?_
      refine we_true (by kernel_rfl) ?_
      refine we_skip fun a hF => hK6 _ _ ?_ a hF
      refine we_true (by kernel_rfl) ?_
      refine we_seq fun K8 hK8 => ?_
      refine we_region [(0, 0)] rfl ?_
      refine ge_batch [0] (ans := []) (vs := [(4, .int .i64 2)]) (l := []) (by kernel_rfl) trivial ?_
      refine ge_nil fun a hF => hK8 _ _ ?_ a hF
      have hS3 := hS1.takeN 0
      subst h
      exact we_ret (post_ret (rs := [.tmp 4]) (ans := []) (vs := [.int .i64 2]) (l := []) rfl (by kernel_rfl) trivial ⟨rfl, hS3⟩)
    · rw [if_neg hc2] at h
      refine we_known (t := 9) (b := (x0.Op == 9)) (v := false) (by kernel_rfl) (beq_eq_false_iff_ne.2 hc2) ?_
      refine we_false (by kernel_rfl) ?_
      refine we_seq fun K9 hK9 => ?_
      refine we_region [(0, 0), (1, 0)] rfl ?_
      refine ge_batch [0, 1] (ans := []) (vs := [(9, .bool (x0.Op == 10)), (11, .bool (x0.Op == 10))]) (l := []) (by kernel_rfl) trivial ?_
      refine ge_nil fun a hF => hK9 _ _ ?_ a hF
      by_cases hc3 : x0.Op = 10
      · rw [if_pos hc3] at h
        refine we_known (t := 9) (b := (x0.Op == 10)) (v := true) (by kernel_rfl) (beq_iff_eq.2 hc3) ?_
        refine we_true (by kernel_rfl) ?_
        refine we_skip fun a hF => hK6 _ _ ?_ a hF
        refine we_true (by kernel_rfl) ?_
        refine we_seq fun K10 hK10 => ?_
        refine we_region [(0, 0)] rfl ?_
        refine ge_batch [0] (ans := []) (vs := [(4, .int .i64 2)]) (l := []) (by kernel_rfl) trivial ?_
        refine ge_nil fun a hF => hK10 _ _ ?_ a hF
        have hS4 := hS1.takeN 0
        subst h
        exact we_ret (post_ret (rs := [.tmp 4]) (ans := []) (vs := [.int .i64 2]) (l := []) rfl (by kernel_rfl) trivial ⟨rfl, hS4⟩)
      · rw [if_neg hc3] at h
        refine we_known (t := 9) (b := (x0.Op == 10)) (v := false) (by kernel_rfl) (beq_eq_false_iff_ne.2 hc3) ?_
        refine we_false (by kernel_rfl) ?_
        refine we_region [(0, 0), (1, 0)] rfl ?_
        refine ge_batch [0, 1] (ans := []) (vs := [(9, .bool (x0.Op == 11)), (12, .bool (x0.Op == 11))]) (l := []) (by kernel_rfl) trivial ?_
        refine ge_nil fun a hF => hK6 _ _ ?_ a hF
        by_cases hc4 : x0.Op = 11
        · rw [if_pos hc4] at h
          refine we_known (t := 9) (b := (x0.Op == 11)) (v := true) (by kernel_rfl) (beq_iff_eq.2 hc4) ?_
          refine we_true (by kernel_rfl) ?_
          refine we_seq fun K11 hK11 => ?_
          refine we_region [(0, 0)] rfl ?_
          refine ge_batch [0] (ans := []) (vs := [(4, .int .i64 2)]) (l := []) (by kernel_rfl) trivial ?_
          refine ge_nil fun a hF => hK11 _ _ ?_ a hF
          have hS5 := hS1.takeN 0
          subst h
          exact we_ret (post_ret (rs := [.tmp 4]) (ans := []) (vs := [.int .i64 2]) (l := []) rfl (by kernel_rfl) trivial ⟨rfl, hS5⟩)
        · rw [if_neg hc4] at h
          refine we_known (t := 9) (b := (x0.Op == 11)) (v := false) (by kernel_rfl) (beq_eq_false_iff_ne.2 hc4) ?_
          refine we_false (by kernel_rfl) ?_
          refine we_seq fun K12 hK12 => ?_
          refine we_seq fun K13 hK13 => ?_
          refine we_region [(0, 0), (1, 0)] rfl ?_
          refine ge_batch [0, 1] (ans := []) (vs := [(13, .bool (x0.Op == 12)), (14, .bool (x0.Op == 12))]) (l := []) (by kernel_rfl) trivial ?_
          refine ge_nil fun a hF => hK13 _ _ ?_ a hF
          by_cases hc5 : x0.Op = 12
          · rw [if_pos hc5] at h
            refine we_known (t := 13) (b := (x0.Op == 12)) (v := true) (by kernel_rfl) (beq_iff_eq.2 hc5) ?_
            refine we_true (by kernel_rfl) ?_
            refine we_skip fun a hF => hK12 _ _ ?_ a hF
            refine we_true (by kernel_rfl) ?_
            refine we_seq fun K14 hK14 => ?_
            refine we_region [(0, 0)] rfl ?_
            refine ge_batch [0] (ans := []) (vs := [(16, .bool x1)]) (l := []) (by kernel_rfl) trivial ?_
            refine ge_nil fun a hF => hK14 _ _ ?_ a hF
            by_cases hc6 : x1 = true
            · rw [if_pos hc6] at h
              refine we_known (t := 16) (b := x1) (v := true) (by kernel_rfl) hc6 ?_
              refine we_true (by kernel_rfl) ?_
              refine we_seq fun K15 hK15 => ?_
              refine we_region [(0, 0)] rfl ?_
              refine ge_batch [0] (ans := []) (vs := [(4, .int .i64 2)]) (l := []) (by kernel_rfl) trivial ?_
              refine ge_nil fun a hF => hK15 _ _ ?_ a hF
              have hS6 := hS1.takeN 0
              subst h
              exact we_ret (post_ret (rs := [.tmp 4]) (ans := []) (vs := [.int .i64 2]) (l := []) rfl (by kernel_rfl) trivial ⟨rfl, hS6⟩)
            · rw [if_neg hc6] at h
              refine we_known (t := 16) (b := x1) (v := false) (by kernel_rfl) (Bool.eq_false_iff.2 hc6) ?_
              refine we_false (by kernel_rfl) ?_
              refine we_skip fun a hF => hK2 _ _ ?_ a hF
              refine we_seq fun K16 hK16 => ?_
              refine we_region [(0, 0)] rfl ?_
              refine ge_batch [0] (ans := []) (vs := [(4, .int .i64 1)]) (l := []) (by kernel_rfl) trivial ?_
              refine ge_nil fun a hF => hK16 _ _ ?_ a hF
              have hS7 := hS1.takeN 0
              subst h
              exact we_ret (post_ret (rs := [.tmp 4]) (ans := []) (vs := [.int .i64 1]) (l := []) rfl (by kernel_rfl) trivial ⟨rfl, hS7⟩)
          · rw [if_neg hc5] at h
            refine we_known (t := 13) (b := (x0.Op == 12)) (v := false) (by kernel_rfl) (beq_eq_false_iff_ne.2 hc5) ?_
            refine we_false (by kernel_rfl) ?_
            refine we_region [(0, 0), (1, 0)] rfl ?_
            refine ge_batch [0, 1] (ans := []) (vs := [(13, .bool (x0.Op == 14)), (15, .bool (x0.Op == 14))]) (l := []) (by kernel_rfl) trivial ?_
            refine ge_nil fun a hF => hK12 _ _ ?_ a hF
            by_cases hc7 : x0.Op = 14
            · rw [if_pos hc7] at h
              refine we_known (t := 13) (b := (x0.Op == 14)) (v := true) (by kernel_rfl) (beq_iff_eq.2 hc7) ?_
              refine we_true (by kernel_rfl) ?_
              refine we_seq fun K17 hK17 => ?_
              refine we_region [(0, 0)] rfl ?_
              refine ge_batch [0] (ans := []) (vs := [(16, .bool x1)]) (l := []) (by kernel_rfl) trivial ?_
              refine ge_nil fun a hF => hK17 _ _ ?_ a hF
              by_cases hc8 : x1 = true
              · rw [if_pos hc8] at h
                refine we_known (t := 16) (b := x1) (v := true) (by kernel_rfl) hc8 ?_
                refine we_true (by kernel_rfl) ?_
                refine we_seq fun K18 hK18 => ?_
                refine we_region [(0, 0)] rfl ?_
                refine ge_batch [0] (ans := []) (vs := [(4, .int .i64 2)]) (l := []) (by kernel_rfl) trivial ?_
                refine ge_nil fun a hF => hK18 _ _ ?_ a hF
                have hS8 := hS1.takeN 0
                subst h
                exact we_ret (post_ret (rs := [.tmp 4]) (ans := []) (vs := [.int .i64 2]) (l := []) rfl (by kernel_rfl) trivial ⟨rfl, hS8⟩)
              · rw [if_neg hc8] at h
                refine we_known (t := 16) (b := x1) (v := false) (by kernel_rfl) (Bool.eq_false_iff.2 hc8) ?_
                refine we_false (by kernel_rfl) ?_
                refine we_skip fun a hF => hK2 _ _ ?_ a hF
                refine we_seq fun K19 hK19 => ?_
                refine we_region [(0, 0)] rfl ?_
                refine ge_batch [0] (ans := []) (vs := [(4, .int .i64 1)]) (l := []) (by kernel_rfl) trivial ?_
                refine ge_nil fun a hF => hK19 _ _ ?_ a hF
                have hS9 := hS1.takeN 0
                subst h
                exact we_ret (post_ret (rs := [.tmp 4]) (ans := []) (vs := [.int .i64 1]) (l := []) rfl (by kernel_rfl) trivial ⟨rfl, hS9⟩)
            · rw [if_neg hc7] at h
              refine we_known (t := 13) (b := (x0.Op == 14)) (v := false) (by kernel_rfl) (beq_eq_false_iff_ne.2 hc7) ?_
              refine we_false (by kernel_rfl) ?_
              refine we_seq fun K20 hK20 => ?_
              refine we_region [(0, 0), (1, 0)] rfl ?_
              refine ge_batch [0, 1] (ans := []) (vs := [(17, .bool (x0.Op == 18)), (18, .bool (x0.Op == 18))]) (l := []) (by kernel_rfl) trivial ?_
              refine ge_nil fun a hF => hK20 _ _ ?_ a hF
              by_cases hc9 : x0.Op = 18
              · rw [if_pos hc9] at h
                refine we_known (t := 17) (b := (x0.Op == 18)) (v := true) (by kernel_rfl) (beq_iff_eq.2 hc9) ?_
                refine we_true (by kernel_rfl) ?_
                refine we_seq fun K21 hK21 => ?_
                refine we_region [(0, 0), (1, 0), (2, 0)] rfl ?_
                refine ge_batch [0, 1, 2] (ans := [.val (.int .i64 x0.A)]) (vs := [(4, .int .i64 x0.A), (20, .int .i64 x0.A), (19, .pointer (some ⟨b1, 1, none⟩))]) (l := [.loaded ⟨b1, 1, none⟩ (.int .i64 x0.A)]) (by kernel_rfl) ⟨hS1.cell 0 rfl rfl, trivial⟩ ?_
                refine ge_nil fun a hF => hK21 _ _ ?_ a hF
                have hS10 := hS1.takeN 0
                subst h
                exact we_ret (post_ret (rs := [.tmp 4]) (ans := []) (vs := [.int .i64 x0.A]) (l := []) rfl (by kernel_rfl) trivial ⟨rfl, hS10⟩)
              · rw [if_neg hc9] at h
                refine we_known (t := 17) (b := (x0.Op == 18)) (v := false) (by kernel_rfl) (beq_eq_false_iff_ne.2 hc9) ?_
                refine we_false (by kernel_rfl) ?_
                refine we_skip fun a hF => hK2 _ _ ?_ a hF
                refine we_seq fun K22 hK22 => ?_
                refine we_region [(0, 0)] rfl ?_
                refine ge_batch [0] (ans := []) (vs := [(4, .int .i64 1)]) (l := []) (by kernel_rfl) trivial ?_
                refine ge_nil fun a hF => hK22 _ _ ?_ a hF
                have hS11 := hS1.takeN 0
                subst h
                exact we_ret (post_ret (rs := [.tmp 4]) (ans := []) (vs := [.int .i64 1]) (l := []) rfl (by kernel_rfl) trivial ⟨rfl, hS11⟩)

/-! punctual/wcet.at$1 -/
abbrev wcet_at_1.Post (w0 : World) (r : Int) (e : Ending) (w : World) : Prop := e = .returned (.int .i64 r) ∧ St w0 w []
def wcet_at_1.f (x0 : Int) (lf_0 : List Int) : Option Int :=
  if x0 ≥ (lf_0.length : Int) then
    some 0
  else
    if 0 ≤ x0 then
      match lf_0[(x0).toNat]? with
      | none => none
      | some e1 =>
        some e1
    else
      none
theorem wcet_at_1_ok (x0 : Int) (bf_0 : Nat) (lf_0 : List Int) (Af_0 : Option Addr) (cf_0 : Nat) (w0 : World) (hRf_0 : RdL w0 Af_0 lf_0) (hLf_0 : lf_0.length ≤ cf_0) (hBf_0 : Glob w0 bf_0 [.slice Af_0 lf_0.length cf_0]) (r : Int) (h : wcet_at_1.f x0 lf_0 = some r) :
    Calls Try.prog 87 #[.int .i64 x0, .pointer (some ⟨bf_0, 0, none⟩)] w0 (wcet_at_1.Post w0 r) := by
  have hS := St.start w0
  unfold wcet_at_1.f at h
  refine calls_enter (n := 12) (args := [.int .i64 x0, .pointer (some ⟨bf_0, 0, none⟩)]) (fn := Try.f87) rfl rfl rfl rfl ?_
  show WE _ _ _ _ [(0, .int .i64 x0), (1, .pointer (some ⟨bf_0, 0, none⟩))] _
  refine we_seq fun K1 hK1 => ?_
  refine we_region [(0, 0)] rfl ?_
  refine ge_batch [0] (ans := []) (vs := [(3, .int .i64 0)]) (l := []) (by kernel_rfl) trivial ?_
  refine ge_nil fun a hF => hK1 _ _ ?_ a hF
  refine we_seq fun K2 hK2 => ?_
  refine we_seq fun K3 hK3 => ?_
  refine we_region [(0, 0), (1, 0), (2, 0), (3, 0)] rfl ?_
  refine ge_batch [0, 1, 2, 3] (ans := [.val (.slice Af_0 lf_0.length cf_0)]) (vs := [(7, .bool (decide (x0 ≥ (lf_0.length : Int)))), (6, .int .i64 (lf_0.length : Int)), (5, .slice Af_0 lf_0.length cf_0), (4, .int .i64 x0)]) (l := [.loaded ⟨bf_0, 0, none⟩ (.slice Af_0 lf_0.length cf_0)]) (by kernel_rfl) ⟨hS.glob hBf_0 rfl, trivial⟩ ?_
  refine ge_nil fun a hF => hK3 _ _ ?_ a hF
  by_cases hc1 : x0 ≥ (lf_0.length : Int)
  · rw [if_pos hc1] at h
    refine we_known (t := 7) (b := decide (x0 ≥ (lf_0.length : Int))) (v := true) (by kernel_rfl) (decide_eq_true hc1) ?_
    refine we_true (by kernel_rfl) ?_
    refine we_seq fun K4 hK4 => ?_
    refine we_region [(0, 0)] rfl ?_
    refine ge_batch [0] (ans := []) (vs := [(3, .int .i64 0)]) (l := []) (by kernel_rfl) trivial ?_
    refine ge_nil fun a hF => hK4 _ _ ?_ a hF
    obtain rfl := Option.some.inj h
    exact we_ret (post_ret (rs := [.tmp 3]) (ans := []) (vs := [.int .i64 0]) (l := []) rfl (by kernel_rfl) trivial ⟨rfl, hS⟩)
  · rw [if_neg hc1] at h
    refine we_known (t := 7) (b := decide (x0 ≥ (lf_0.length : Int))) (v := false) (by kernel_rfl) (decide_eq_false hc1) ?_
    refine we_false (by kernel_rfl) ?_
    refine we_skip fun a hF => hK2 _ _ ?_ a hF
    refine we_seq fun K5 hK5 => ?_
    refine we_region [(0, 0), (1, 0), (2, 0), (3, 0), (4, 0)] rfl ?_
    refine ge_batch [0, 1] (ans := [.val (.slice Af_0 lf_0.length cf_0)]) (vs := [(9, .int .i64 x0), (8, .slice Af_0 lf_0.length cf_0)]) (l := [.loaded ⟨bf_0, 0, none⟩ (.slice Af_0 lf_0.length cf_0)]) (by kernel_rfl) ⟨hS.glob hBf_0 rfl, trivial⟩ ?_
    by_cases hc2 : 0 ≤ x0
    · rw [if_pos hc2] at h
      rcases hx1 : lf_0[(x0).toNat]? with _ | e1
      · rw [hx1] at h; cases h
      rw [hx1] at h
      simp only [] at h
      refine ge_index (d := 10) (ty := 0) (t := 24) (el := 3) (sz := 1) (m := lf_0.length) (c := cf_0) (x := (.tmp 8)) (y := (.tmp 9)) (A := Af_0) (k' := .i64) (j := x0) (jn := ((x0).toNat)) (b0 := blkOf Af_0) (o0 := offOf Af_0) (by kernel_rfl) (by kernel_rfl) (by kernel_rfl) (by kernel_rfl) (by kernel_rfl) ((hS.rd hRf_0).eqSome (pos_of_get hx1)) (Int.toNat_of_nonneg hc2).symm (lt_of_get hx1) ?_
      refine ge_batch [3, 4] (ans := [.val (.int .i64 e1)]) (vs := [(3, .int .i64 e1), (11, .int .i64 e1)]) (l := [.loaded ⟨blkOf Af_0, offOf Af_0 + ((x0).toNat) * 1, none⟩ (.int .i64 e1)]) (by kernel_rfl) ⟨RdL.cell (j := 0) (hS.rd hRf_0) hx1 rfl, trivial⟩ ?_
      refine ge_nil fun a hF => hK5 _ _ ?_ a hF
      obtain rfl := Option.some.inj h
      exact we_ret (post_ret (rs := [.tmp 3]) (ans := []) (vs := [.int .i64 e1]) (l := []) rfl (by kernel_rfl) trivial ⟨rfl, hS⟩)
    · rw [if_neg hc2] at h
      cases h

/-! punctual/wcet.need -/
abbrev wcet_need.Post (w0 : World) (r : Int) (e : Ending) (w : World) : Prop := e = .returned (.int .i64 r) ∧ St w0 w []
def wcet_need.f (l0 : List SIns) (l1_0 : List Int) (m1_1 : List (Int × Int)) (lg2_0 : List Int) (x3 : Int) : Option Int :=
  if 0 ≤ x3 then
    match l0[(x3).toNat]? with
    | none => none
    | some e1 =>
      if e1.Op = 14 then
        some 0
      else
        if e1.Op = 17 then
          some 1
        else
          if e1.Op = 11 then
            match wcet_at_1.f e1.A lg2_0 with
            | none => none
            | some r1 =>
              some (IntKind.i64.wrap ((mach_Cost.f e1 true) + r1))
          else
            if e1.Op = 12 then
              match wcet_at_1.f e1.A lg2_0 with
              | none => none
              | some r2 =>
                match wcet_at_1.f (IntKind.i64.wrap (x3 + 1)) lg2_0 with
                | none => none
                | some r3 =>
                  some (gmax (IntKind.i64.wrap ((mach_Cost.f e1 true) + r2)) (IntKind.i64.wrap ((mach_Cost.f e1 false) + r3)))
            else
              if e1.Op = 13 then
                match wcet_at_1.f (IntKind.i64.wrap (x3 + 1)) lg2_0 with
                | none => none
                | some r4 =>
                  match wcet_at_1.f (IntKind.i64.wrap (((mget m1_1 x3).getD 0) + 1)) lg2_0 with
                  | none => none
                  | some r5 =>
                    some (IntKind.i64.wrap ((IntKind.i64.wrap ((IntKind.i64.wrap ((IntKind.i64.wrap (1 + (IntKind.i64.wrap ((IntKind.i64.wrap (e1.B + 1)) * r4)))) + (IntKind.i64.wrap (2 * e1.B)))) + 1)) + r5))
              else
                if e1.Op = 16 then
                  match wcet_at_1.f (IntKind.i64.wrap (x3 + 1)) lg2_0 with
                  | none => none
                  | some r6 =>
                    match wcet_at_1.f (IntKind.i64.wrap (((mget m1_1 x3).getD 0) + 1)) lg2_0 with
                    | none => none
                    | some r7 =>
                      some (IntKind.i64.wrap ((IntKind.i64.wrap (1 + r6)) + r7))
                else
                  match wcet_at_1.f (IntKind.i64.wrap (x3 + 1)) lg2_0 with
                  | none => none
                  | some r8 =>
                    some (IntKind.i64.wrap ((mach_Cost.f e1 false) + r8))
  else
    none
theorem wcet_need_ok (l0 : List SIns) (A0 : Option Addr) (c0 : Nat) (l1_0 : List Int) (A1_0 : Option Addr) (c1_0 : Nat) (m1_1 : List (Int × Int)) (mb1_1 : Option Nat) (bg2_0 : Nat) (lg2_0 : List Int) (Ag2_0 : Option Addr) (cg2_0 : Nat) (x3 : Int) (w0 : World) (hR0 : RdL w0 A0 l0) (hL0 : l0.length ≤ c0) (hR1_0 : RdL w0 A1_0 l1_0) (hL1_0 : l1_0.length ≤ c1_0) (hM1_1 : RdM w0 mb1_1 m1_1) (hRg2_0 : RdL w0 Ag2_0 lg2_0) (hLg2_0 : lg2_0.length ≤ cg2_0) (hBg2_0 : Glob w0 bg2_0 [.slice Ag2_0 lg2_0.length cg2_0]) (r : Int) (h : wcet_need.f l0 l1_0 m1_1 lg2_0 x3 = some r) :
    Calls Try.prog 63 #[.slice A0 l0.length c0, .agg #[.slice A1_0 l1_0.length c1_0, .map mb1_1], .func (.func 87) #[] #[.pointer (some ⟨bg2_0, 0, none⟩)], .int .i64 x3] w0 (wcet_need.Post w0 r) := by
  have hS := St.start w0
  unfold wcet_need.f at h
  refine calls_enter (n := 92) (args := [.slice A0 l0.length c0, .agg #[.slice A1_0 l1_0.length c1_0, .map mb1_1], .func (.func 87) #[] #[.pointer (some ⟨bg2_0, 0, none⟩)], .int .i64 x3]) (fn := Try.f63) rfl rfl rfl rfl ?_
  show WE _ _ _ _ [(0, .slice A0 l0.length c0), (1, .agg #[.slice A1_0 l1_0.length c1_0, .map mb1_1]), (2, .func (.func 87) #[] #[.pointer (some ⟨bg2_0, 0, none⟩)]), (3, .int .i64 x3)] _
  refine we_seq fun K1 hK1 => ?_
  refine we_region [(0, 1), (1, 0)] rfl ?_
  refine ge_new (d := some 5) (o := .cells #[.slice A1_0 l1_0.length c1_0, .map mb1_1] 115) (v := fun b => .pointer (some ⟨b, 0, none⟩)) hS (fun b => by kernel_rfl) fun b1 w1 hx1 hS1 => ?_
  refine ge_batch [1] (ans := []) (vs := [(8, .int .i64 0)]) (l := []) (by kernel_rfl) trivial ?_
  refine ge_nil fun a hF => hK1 _ _ ?_ a hF
  refine we_seq fun K2 hK2 => ?_
  refine we_region [(0, 0), (1, 0), (2, 0), (3, 0), (4, 1), (5, 2)] rfl ?_
  refine ge_batch [0, 1] (ans := []) (vs := [(11, .int .i64 x3), (10, .slice A0 l0.length c0)]) (l := []) (by kernel_rfl) trivial ?_
  by_cases hc1 : 0 ≤ x3
  · rw [if_pos hc1] at h
    rcases hx2 : l0[(x3).toNat]? with _ | e1
    · rw [hx2] at h; cases h
    rw [hx2] at h
    simp only [] at h
    refine ge_index (d := 12) (ty := 0) (t := 68) (el := 29) (sz := 3) (m := l0.length) (c := c0) (x := (.tmp 10)) (y := (.tmp 11)) (A := A0) (k' := .i64) (j := x3) (jn := ((x3).toNat)) (b0 := blkOf A0) (o0 := offOf A0) (by kernel_rfl) (by kernel_rfl) (by kernel_rfl) (by kernel_rfl) (by kernel_rfl) ((hS1.rd hR0).eqSome (pos_of_get hx2)) (Int.toNat_of_nonneg hc1).symm (lt_of_get hx2) ?_
    refine ge_batch [3] (ans := [.val (.int .i64 e1.Op), .val (.int .i64 e1.A), .val (.int .i64 e1.B)]) (vs := [(13, .agg #[.int .i64 e1.Op, .int .i64 e1.A, .int .i64 e1.B])]) (l := [.loaded ⟨blkOf A0, offOf A0 + ((x3).toNat) * 3, none⟩ (.int .i64 e1.Op), .loaded ⟨blkOf A0, offOf A0 + ((x3).toNat) * 3 + 1, none⟩ (.int .i64 e1.A), .loaded ⟨blkOf A0, offOf A0 + ((x3).toNat) * 3 + 2, none⟩ (.int .i64 e1.B)]) (by kernel_rfl) ⟨RdL.cell (j := 0) (hS1.rd hR0) hx2 rfl, RdL.cell (j := 1) (hS1.rd hR0) hx2 rfl, RdL.cell (j := 2) (hS1.rd hR0) hx2 rfl, trivial⟩ ?_
    refine ge_new (d := some 9) (o := .cells #[.int .i64 0, .int .i64 0, .int .i64 0] 29) (v := fun b => .pointer (some ⟨b, 0, none⟩)) hS1 (fun b => by kernel_rfl) fun b2 w2 hx3 hS2 => ?_
    refine ge_set (b := b2) (j := 0) (cs := #[.int .i64 0, .int .i64 0, .int .i64 0]) (t := 29) (vs := [.int .i64 e1.Op, .int .i64 e1.A, .int .i64 e1.B]) hS2 (by kernel_rfl) rfl rfl fun w3 hS3 => ?_
    have hS4 : St w0 w3 [Own.blk b2 (.cells #[.int .i64 e1.Op, .int .i64 e1.A, .int .i64 e1.B] 29 (0, 0)), Own.blk b1 (.cells #[.slice A1_0 l1_0.length c1_0, .map mb1_1] 115 (0, 0))] := hS3
    refine ge_nil fun a hF => hK2 _ _ ?_ a hF
    refine we_seq fun K3 hK3 => ?_
    refine we_seq fun K4 hK4 => ?_
    refine we_region [(0, 0), (1, 0)] rfl ?_
    refine ge_batch [0, 1] (ans := [.val (.int .i64 e1.Op)]) (vs := [(15, .int .i64 e1.Op), (14, .pointer (some ⟨b2, 0, none⟩))]) (l := [.loaded ⟨b2, 0, none⟩ (.int .i64 e1.Op)]) (by kernel_rfl) ⟨hS4.cell 0 rfl rfl, trivial⟩ ?_
    refine ge_nil fun a hF => hK4 _ _ ?_ a hF
    refine we_block ?_
    refine we_seq fun K5 hK5 => ?_
    refine we_region [(0, 0), (1, 0)] rfl ?_
    refine ge_batch [0, 1] (ans := []) (vs := [(16, .bool (e1.Op == 14)), (17, .bool (e1.Op == 14))]) (l := []) (by kernel_rfl) trivial ?_
    refine ge_nil fun a hF => hK5 _ _ ?_ a hF
    by_cases hc2 : e1.Op = 14
    · rw [if_pos hc2] at h
      refine we_known (t := 16) (b := (e1.Op == 14)) (v := true) (by kernel_rfl) (beq_iff_eq.2 hc2) ?_
      refine we_true (by kernel_rfl) ?_
      refine we_seq fun K6 hK6 => ?_
      refine we_region [(0, 0)] rfl ?_
      refine ge_batch [0] (ans := []) (vs := [(8, .int .i64 0)]) (l := []) (by kernel_rfl) trivial ?_
      refine ge_nil fun a hF => hK6 _ _ ?_ a hF
      have hS5 := hS4.takeN 0
      obtain rfl := Option.some.inj h
      exact we_ret (post_ret (rs := [.tmp 8]) (ans := []) (vs := [.int .i64 0]) (l := []) rfl (by kernel_rfl) trivial ⟨rfl, hS5⟩)
    · rw [if_neg hc2] at h
      refine we_known (t := 16) (b := (e1.Op == 14)) (v := false) (by kernel_rfl) (beq_eq_false_iff_ne.2 hc2) ?_
      refine we_false (by kernel_rfl) ?_
      refine we_seq fun K7 hK7 => ?_
      refine we_region [(0, 0), (1, 0)] rfl ?_
      refine ge_batch [0, 1] (ans := []) (vs := [(18, .bool (e1.Op == 17)), (19, .bool (e1.Op == 17))]) (l := []) (by kernel_rfl) trivial ?_
      refine ge_nil fun a hF => hK7 _ _ ?_ a hF
      by_cases hc3 : e1.Op = 17
      · rw [if_pos hc3] at h
        refine we_known (t := 18) (b := (e1.Op == 17)) (v := true) (by kernel_rfl) (beq_iff_eq.2 hc3) ?_
        refine we_true (by kernel_rfl) ?_
        refine we_seq fun K8 hK8 => ?_
        refine we_region [(0, 0)] rfl ?_
        refine ge_batch [0] (ans := []) (vs := [(8, .int .i64 1)]) (l := []) (by kernel_rfl) trivial ?_
        refine ge_nil fun a hF => hK8 _ _ ?_ a hF
        have hS6 := hS4.takeN 0
        obtain rfl := Option.some.inj h
        exact we_ret (post_ret (rs := [.tmp 8]) (ans := []) (vs := [.int .i64 1]) (l := []) rfl (by kernel_rfl) trivial ⟨rfl, hS6⟩)
      · rw [if_neg hc3] at h
        refine we_known (t := 18) (b := (e1.Op == 17)) (v := false) (by kernel_rfl) (beq_eq_false_iff_ne.2 hc3) ?_
        refine we_false (by kernel_rfl) ?_
        refine we_seq fun K9 hK9 => ?_
        refine we_region [(0, 0), (1, 0)] rfl ?_
        refine ge_batch [0, 1] (ans := []) (vs := [(20, .bool (e1.Op == 11)), (21, .bool (e1.Op == 11))]) (l := []) (by kernel_rfl) trivial ?_
        refine ge_nil fun a hF => hK9 _ _ ?_ a hF
        by_cases hc4 : e1.Op = 11
        · rw [if_pos hc4] at h
          refine we_known (t := 20) (b := (e1.Op == 11)) (v := true) (by kernel_rfl) (beq_iff_eq.2 hc4) ?_
          refine we_true (by kernel_rfl) ?_
          refine we_seq fun K10 hK10 => ?_
          refine we_draws (by kernel_rfl) [(0, 0), (2, 0), (3, 0), (4, 0), (1, 1), (5, 1), (6, 0), (7, 0)] (by kernel_rfl) ?_
          have hS7 := hS4.drew
          refine ge_batch [0, 2, 3, 4] (ans := [.val (.int .i64 e1.Op), .val (.int .i64 e1.A), .val (.int .i64 e1.B), .val (.int .i64 e1.A)]) (vs := [(26, .int .i64 e1.A), (25, .pointer (some ⟨b2, 1, none⟩)), (24, .func (.func 87) #[] #[.pointer (some ⟨bg2_0, 0, none⟩)]), (22, .agg #[.int .i64 e1.Op, .int .i64 e1.A, .int .i64 e1.B])]) (l := [.loaded ⟨b2, 0, none⟩ (.int .i64 e1.Op), .loaded ⟨b2, 1, none⟩ (.int .i64 e1.A), .loaded ⟨b2, 2, none⟩ (.int .i64 e1.B), .loaded ⟨b2, 1, none⟩ (.int .i64 e1.A)]) (by kernel_rfl) ⟨hS7.cell 0 rfl rfl, hS7.cell 0 rfl rfl, hS7.cell 0 rfl rfl, hS7.cell 0 rfl rfl, trivial⟩ ?_
          refine ge_call (d := some 23) (f := 12) (args := #[.agg #[.int .i64 e1.Op, .int .i64 e1.A, .int .i64 e1.B], .bool true]) (by kernel_rfl) (mach_Cost_ok e1 true _ _ rfl) ?_
          rintro _ w4 ⟨rfl, hS8⟩
          refine ⟨_, rfl, hS8.below, ?_⟩
          have hS9 := hS7.call hS8
          rcases hq2 : wcet_at_1.f e1.A lg2_0 with _ | r1
          · rw [hq2] at h; cases h
          rw [hq2] at h
          simp only [] at h
          refine ge_call (d := some 27) (f := 87) (args := #[.int .i64 e1.A, .pointer (some ⟨bg2_0, 0, none⟩)]) (by kernel_rfl) (wcet_at_1_ok e1.A bg2_0 lg2_0 Ag2_0 cg2_0 _ (hS9.rd hRg2_0) hLg2_0 (Glob.ext hBg2_0 hS9.below) _ hq2) ?_
          rintro _ w5 ⟨rfl, hS10⟩
          refine ⟨_, rfl, hS10.below, ?_⟩
          have hS11 := hS9.call hS10
          refine ge_batch [6, 7] (ans := []) (vs := [(8, .int .i64 (IntKind.i64.wrap ((mach_Cost.f e1 true) + r1))), (28, .int .i64 (IntKind.i64.wrap ((mach_Cost.f e1 true) + r1)))]) (l := []) (by kernel_rfl) trivial ?_
          refine ge_nil fun a hF => hK10 _ _ ?_ a hF
          have hS12 := hS11.takeN 0
          obtain rfl := Option.some.inj h
          exact we_ret (post_ret (rs := [.tmp 8]) (ans := []) (vs := [.int .i64 (IntKind.i64.wrap ((mach_Cost.f e1 true) + r1))]) (l := []) rfl (by kernel_rfl) trivial ⟨rfl, hS12⟩)
        · rw [if_neg hc4] at h
          refine we_known (t := 20) (b := (e1.Op == 11)) (v := false) (by kernel_rfl) (beq_eq_false_iff_ne.2 hc4) ?_
          refine we_false (by kernel_rfl) ?_
          refine we_seq fun K11 hK11 => ?_
          refine we_region [(0, 0), (1, 0)] rfl ?_
          refine ge_batch [0, 1] (ans := []) (vs := [(29, .bool (e1.Op == 12)), (30, .bool (e1.Op == 12))]) (l := []) (by kernel_rfl) trivial ?_
          refine ge_nil fun a hF => hK11 _ _ ?_ a hF
          by_cases hc5 : e1.Op = 12
          · rw [if_pos hc5] at h
            refine we_known (t := 29) (b := (e1.Op == 12)) (v := true) (by kernel_rfl) (beq_iff_eq.2 hc5) ?_
            refine we_true (by kernel_rfl) ?_
            refine we_seq fun K12 hK12 => ?_
            refine we_draws (by kernel_rfl) [(0, 0), (2, 0), (3, 0), (4, 0), (7, 0), (9, 0), (10, 0), (11, 0), (1, 1), (5, 1), (6, 0), (8, 1), (12, 1), (13, 0), (14, 0), (15, 0)] (by kernel_rfl) ?_
            have hS13 := hS4.drew
            refine ge_batch [0, 2, 3, 4, 7, 9, 10, 11] (ans := [.val (.int .i64 e1.Op), .val (.int .i64 e1.A), .val (.int .i64 e1.B), .val (.int .i64 e1.A), .val (.int .i64 e1.Op), .val (.int .i64 e1.A), .val (.int .i64 e1.B)]) (vs := [(42, .int .i64 (IntKind.i64.wrap (x3 + 1))), (41, .int .i64 x3), (40, .func (.func 87) #[] #[.pointer (some ⟨bg2_0, 0, none⟩)]), (38, .agg #[.int .i64 e1.Op, .int .i64 e1.A, .int .i64 e1.B]), (35, .int .i64 e1.A), (34, .pointer (some ⟨b2, 1, none⟩)), (33, .func (.func 87) #[] #[.pointer (some ⟨bg2_0, 0, none⟩)]), (31, .agg #[.int .i64 e1.Op, .int .i64 e1.A, .int .i64 e1.B])]) (l := [.loaded ⟨b2, 0, none⟩ (.int .i64 e1.Op), .loaded ⟨b2, 1, none⟩ (.int .i64 e1.A), .loaded ⟨b2, 2, none⟩ (.int .i64 e1.B), .loaded ⟨b2, 1, none⟩ (.int .i64 e1.A), .loaded ⟨b2, 0, none⟩ (.int .i64 e1.Op), .loaded ⟨b2, 1, none⟩ (.int .i64 e1.A), .loaded ⟨b2, 2, none⟩ (.int .i64 e1.B)]) (by kernel_rfl) ⟨hS13.cell 0 rfl rfl, hS13.cell 0 rfl rfl, hS13.cell 0 rfl rfl, hS13.cell 0 rfl rfl, hS13.cell 0 rfl rfl, hS13.cell 0 rfl rfl, hS13.cell 0 rfl rfl, trivial⟩ ?_
            refine ge_call (d := some 32) (f := 12) (args := #[.agg #[.int .i64 e1.Op, .int .i64 e1.A, .int .i64 e1.B], .bool true]) (by kernel_rfl) (mach_Cost_ok e1 true _ _ rfl) ?_
            rintro _ w6 ⟨rfl, hS14⟩
            refine ⟨_, rfl, hS14.below, ?_⟩
            have hS15 := hS13.call hS14
            rcases hq4 : wcet_at_1.f e1.A lg2_0 with _ | r2
            · rw [hq4] at h; cases h
            rw [hq4] at h
            simp only [] at h
            refine ge_call (d := some 36) (f := 87) (args := #[.int .i64 e1.A, .pointer (some ⟨bg2_0, 0, none⟩)]) (by kernel_rfl) (wcet_at_1_ok e1.A bg2_0 lg2_0 Ag2_0 cg2_0 _ (hS15.rd hRg2_0) hLg2_0 (Glob.ext hBg2_0 hS15.below) _ hq4) ?_
            rintro _ w7 ⟨rfl, hS16⟩
            refine ⟨_, rfl, hS16.below, ?_⟩
            have hS17 := hS15.call hS16
            refine ge_batch [6] (ans := []) (vs := [(37, .int .i64 (IntKind.i64.wrap ((mach_Cost.f e1 true) + r2)))]) (l := []) (by kernel_rfl) trivial ?_
            refine ge_call (d := some 39) (f := 12) (args := #[.agg #[.int .i64 e1.Op, .int .i64 e1.A, .int .i64 e1.B], .bool false]) (by kernel_rfl) (mach_Cost_ok e1 false _ _ rfl) ?_
            rintro _ w8 ⟨rfl, hS18⟩
            refine ⟨_, rfl, hS18.below, ?_⟩
            have hS19 := hS17.call hS18
            rcases hq6 : wcet_at_1.f (IntKind.i64.wrap (x3 + 1)) lg2_0 with _ | r3
            · rw [hq6] at h; cases h
            rw [hq6] at h
            simp only [] at h
            refine ge_call (d := some 43) (f := 87) (args := #[.int .i64 (IntKind.i64.wrap (x3 + 1)), .pointer (some ⟨bg2_0, 0, none⟩)]) (by kernel_rfl) (wcet_at_1_ok (IntKind.i64.wrap (x3 + 1)) bg2_0 lg2_0 Ag2_0 cg2_0 _ (hS19.rd hRg2_0) hLg2_0 (Glob.ext hBg2_0 hS19.below) _ hq6) ?_
            rintro _ w9 ⟨rfl, hS20⟩
            refine ⟨_, rfl, hS20.below, ?_⟩
            have hS21 := hS19.call hS20
            refine ge_batch [13, 14, 15] (ans := []) (vs := [(8, .int .i64 (gmax (IntKind.i64.wrap ((mach_Cost.f e1 true) + r2)) (IntKind.i64.wrap ((mach_Cost.f e1 false) + r3)))), (45, .int .i64 (gmax (IntKind.i64.wrap ((mach_Cost.f e1 true) + r2)) (IntKind.i64.wrap ((mach_Cost.f e1 false) + r3)))), (44, .int .i64 (IntKind.i64.wrap ((mach_Cost.f e1 false) + r3)))]) (l := []) (by kernel_rfl) trivial ?_
            refine ge_nil fun a hF => hK12 _ _ ?_ a hF
            have hS22 := hS21.takeN 0
            obtain rfl := Option.some.inj h
            exact we_ret (post_ret (rs := [.tmp 8]) (ans := []) (vs := [.int .i64 (gmax (IntKind.i64.wrap ((mach_Cost.f e1 true) + r2)) (IntKind.i64.wrap ((mach_Cost.f e1 false) + r3)))]) (l := []) rfl (by kernel_rfl) trivial ⟨rfl, hS22⟩)
          · rw [if_neg hc5] at h
            refine we_known (t := 29) (b := (e1.Op == 12)) (v := false) (by kernel_rfl) (beq_eq_false_iff_ne.2 hc5) ?_
            refine we_false (by kernel_rfl) ?_
            refine we_seq fun K13 hK13 => ?_
            refine we_region [(0, 0), (1, 0)] rfl ?_
            refine ge_batch [0, 1] (ans := []) (vs := [(46, .bool (e1.Op == 13)), (47, .bool (e1.Op == 13))]) (l := []) (by kernel_rfl) trivial ?_
            refine ge_nil fun a hF => hK13 _ _ ?_ a hF
            by_cases hc6 : e1.Op = 13
            · rw [if_pos hc6] at h
              refine we_known (t := 46) (b := (e1.Op == 13)) (v := true) (by kernel_rfl) (beq_iff_eq.2 hc6) ?_
              refine we_true (by kernel_rfl) ?_
              refine we_seq fun K14 hK14 => ?_
              refine we_draws (by kernel_rfl) [(0, 0), (1, 0), (2, 0), (3, 0), (4, 0), (5, 0), (9, 0), (10, 0), (11, 0), (14, 0), (15, 0), (16, 0), (17, 0), (18, 0), (19, 0), (6, 1), (7, 0), (8, 0), (12, 0), (13, 0), (20, 1), (21, 0), (22, 0)] (by kernel_rfl) ?_
              have hS23 := hS4.drew
              refine ge_batch [0, 1, 2, 3, 4, 5, 9, 10, 11, 14, 15, 16, 17] (ans := [.val (.int .i64 e1.B), .val (.int .i64 e1.B), .val (.map mb1_1)]) (vs := [(65, .int .i64 x3), (64, .map mb1_1), (63, .pointer (some ⟨b1, 1, none⟩)), (62, .func (.func 87) #[] #[.pointer (some ⟨bg2_0, 0, none⟩)]), (59, .int .i64 (IntKind.i64.wrap (2 * e1.B))), (58, .int .i64 e1.B), (57, .pointer (some ⟨b2, 2, none⟩)), (53, .int .i64 (IntKind.i64.wrap (x3 + 1))), (52, .int .i64 x3), (51, .func (.func 87) #[] #[.pointer (some ⟨bg2_0, 0, none⟩)]), (50, .int .i64 (IntKind.i64.wrap (e1.B + 1))), (49, .int .i64 e1.B), (48, .pointer (some ⟨b2, 2, none⟩))]) (l := [.loaded ⟨b2, 2, none⟩ (.int .i64 e1.B), .loaded ⟨b2, 2, none⟩ (.int .i64 e1.B), .loaded ⟨b1, 1, none⟩ (.map mb1_1)]) (by kernel_rfl) ⟨hS23.cell 0 rfl rfl, hS23.cell 0 rfl rfl, hS23.cell 1 rfl rfl, trivial⟩ ?_
              refine ge_lookupR (κ := Int) (ν := Int) (d := 66) (b := mb1_1) (t := 113) (kt := 3) (et := 3) (x := (.tmp 64)) (y := (.tmp 65)) (ty := 3) (m := m1_1) (k := x3) (z := 0) (v := ((mget m1_1 x3).getD 0)) (zv := .int .i64 0) (vv := .int .i64 ((mget m1_1 x3).getD 0)) (by kernel_rfl) (by kernel_rfl) (by kernel_rfl) (by kernel_rfl) (by kernel_rfl) (fun w' => by kernel_rfl) rfl (hS23.rdM hM1_1) rfl rfl ?_
              rcases hq7 : wcet_at_1.f (IntKind.i64.wrap (x3 + 1)) lg2_0 with _ | r4
              · rw [hq7] at h; cases h
              rw [hq7] at h
              simp only [] at h
              refine ge_batch [19] (ans := []) (vs := [(67, .int .i64 (IntKind.i64.wrap (((mget m1_1 x3).getD 0) + 1)))]) (l := []) (by kernel_rfl) trivial ?_
              refine ge_call (d := some 54) (f := 87) (args := #[.int .i64 (IntKind.i64.wrap (x3 + 1)), .pointer (some ⟨bg2_0, 0, none⟩)]) (by kernel_rfl) (wcet_at_1_ok (IntKind.i64.wrap (x3 + 1)) bg2_0 lg2_0 Ag2_0 cg2_0 _ (hS23.rd hRg2_0) hLg2_0 (Glob.ext hBg2_0 hS23.below) _ hq7) ?_
              rintro _ w10 ⟨rfl, hS24⟩
              refine ⟨_, rfl, hS24.below, ?_⟩
              have hS25 := hS23.call hS24
              rcases hq8 : wcet_at_1.f (IntKind.i64.wrap (((mget m1_1 x3).getD 0) + 1)) lg2_0 with _ | r5
              · rw [hq8] at h; cases h
              rw [hq8] at h
              simp only [] at h
              refine ge_batch [7, 8, 12, 13] (ans := []) (vs := [(61, .int .i64 (IntKind.i64.wrap ((IntKind.i64.wrap ((IntKind.i64.wrap (1 + (IntKind.i64.wrap ((IntKind.i64.wrap (e1.B + 1)) * r4)))) + (IntKind.i64.wrap (2 * e1.B)))) + 1))), (60, .int .i64 (IntKind.i64.wrap ((IntKind.i64.wrap (1 + (IntKind.i64.wrap ((IntKind.i64.wrap (e1.B + 1)) * r4)))) + (IntKind.i64.wrap (2 * e1.B))))), (56, .int .i64 (IntKind.i64.wrap (1 + (IntKind.i64.wrap ((IntKind.i64.wrap (e1.B + 1)) * r4))))), (55, .int .i64 (IntKind.i64.wrap ((IntKind.i64.wrap (e1.B + 1)) * r4)))]) (l := []) (by kernel_rfl) trivial ?_
              refine ge_call (d := some 68) (f := 87) (args := #[.int .i64 (IntKind.i64.wrap (((mget m1_1 x3).getD 0) + 1)), .pointer (some ⟨bg2_0, 0, none⟩)]) (by kernel_rfl) (wcet_at_1_ok (IntKind.i64.wrap (((mget m1_1 x3).getD 0) + 1)) bg2_0 lg2_0 Ag2_0 cg2_0 _ (hS25.rd hRg2_0) hLg2_0 (Glob.ext hBg2_0 hS25.below) _ hq8) ?_
              rintro _ w11 ⟨rfl, hS26⟩
              refine ⟨_, rfl, hS26.below, ?_⟩
              have hS27 := hS25.call hS26
              refine ge_batch [21, 22] (ans := []) (vs := [(8, .int .i64 (IntKind.i64.wrap ((IntKind.i64.wrap ((IntKind.i64.wrap ((IntKind.i64.wrap (1 + (IntKind.i64.wrap ((IntKind.i64.wrap (e1.B + 1)) * r4)))) + (IntKind.i64.wrap (2 * e1.B)))) + 1)) + r5))), (69, .int .i64 (IntKind.i64.wrap ((IntKind.i64.wrap ((IntKind.i64.wrap ((IntKind.i64.wrap (1 + (IntKind.i64.wrap ((IntKind.i64.wrap (e1.B + 1)) * r4)))) + (IntKind.i64.wrap (2 * e1.B)))) + 1)) + r5)))]) (l := []) (by kernel_rfl) trivial ?_
              refine ge_nil fun a hF => hK14 _ _ ?_ a hF
              have hS28 := hS27.takeN 0
              obtain rfl := Option.some.inj h
              exact we_ret (post_ret (rs := [.tmp 8]) (ans := []) (vs := [.int .i64 (IntKind.i64.wrap ((IntKind.i64.wrap ((IntKind.i64.wrap ((IntKind.i64.wrap (1 + (IntKind.i64.wrap ((IntKind.i64.wrap (e1.B + 1)) * r4)))) + (IntKind.i64.wrap (2 * e1.B)))) + 1)) + r5))]) (l := []) rfl (by kernel_rfl) trivial ⟨rfl, hS28⟩)
            · rw [if_neg hc6] at h
              refine we_known (t := 46) (b := (e1.Op == 13)) (v := false) (by kernel_rfl) (beq_eq_false_iff_ne.2 hc6) ?_
              refine we_false (by kernel_rfl) ?_
              refine we_seq fun K15 hK15 => ?_
              refine we_region [(0, 0), (1, 0)] rfl ?_
              refine ge_batch [0, 1] (ans := []) (vs := [(70, .bool (e1.Op == 16)), (71, .bool (e1.Op == 16))]) (l := []) (by kernel_rfl) trivial ?_
              refine ge_nil fun a hF => hK15 _ _ ?_ a hF
              by_cases hc7 : e1.Op = 16
              · rw [if_pos hc7] at h
                refine we_known (t := 70) (b := (e1.Op == 16)) (v := true) (by kernel_rfl) (beq_iff_eq.2 hc7) ?_
                refine we_true (by kernel_rfl) ?_
                refine we_seq fun K16 hK16 => ?_
                refine we_draws (by kernel_rfl) [(0, 0), (1, 0), (2, 0), (5, 0), (6, 0), (7, 0), (8, 0), (9, 0), (10, 0), (3, 1), (4, 0), (11, 1), (12, 0), (13, 0)] (by kernel_rfl) ?_
                have hS29 := hS4.drew
                refine ge_batch [0, 1, 2, 5, 6, 7, 8] (ans := [.val (.map mb1_1)]) (vs := [(80, .int .i64 x3), (79, .map mb1_1), (78, .pointer (some ⟨b1, 1, none⟩)), (77, .func (.func 87) #[] #[.pointer (some ⟨bg2_0, 0, none⟩)]), (74, .int .i64 (IntKind.i64.wrap (x3 + 1))), (73, .int .i64 x3), (72, .func (.func 87) #[] #[.pointer (some ⟨bg2_0, 0, none⟩)])]) (l := [.loaded ⟨b1, 1, none⟩ (.map mb1_1)]) (by kernel_rfl) ⟨hS29.cell 1 rfl rfl, trivial⟩ ?_
                refine ge_lookupR (κ := Int) (ν := Int) (d := 81) (b := mb1_1) (t := 113) (kt := 3) (et := 3) (x := (.tmp 79)) (y := (.tmp 80)) (ty := 3) (m := m1_1) (k := x3) (z := 0) (v := ((mget m1_1 x3).getD 0)) (zv := .int .i64 0) (vv := .int .i64 ((mget m1_1 x3).getD 0)) (by kernel_rfl) (by kernel_rfl) (by kernel_rfl) (by kernel_rfl) (by kernel_rfl) (fun w' => by kernel_rfl) rfl (hS29.rdM hM1_1) rfl rfl ?_
                rcases hq9 : wcet_at_1.f (IntKind.i64.wrap (x3 + 1)) lg2_0 with _ | r6
                · rw [hq9] at h; cases h
                rw [hq9] at h
                simp only [] at h
                refine ge_batch [10] (ans := []) (vs := [(82, .int .i64 (IntKind.i64.wrap (((mget m1_1 x3).getD 0) + 1)))]) (l := []) (by kernel_rfl) trivial ?_
                refine ge_call (d := some 75) (f := 87) (args := #[.int .i64 (IntKind.i64.wrap (x3 + 1)), .pointer (some ⟨bg2_0, 0, none⟩)]) (by kernel_rfl) (wcet_at_1_ok (IntKind.i64.wrap (x3 + 1)) bg2_0 lg2_0 Ag2_0 cg2_0 _ (hS29.rd hRg2_0) hLg2_0 (Glob.ext hBg2_0 hS29.below) _ hq9) ?_
                rintro _ w12 ⟨rfl, hS30⟩
                refine ⟨_, rfl, hS30.below, ?_⟩
                have hS31 := hS29.call hS30
                rcases hq10 : wcet_at_1.f (IntKind.i64.wrap (((mget m1_1 x3).getD 0) + 1)) lg2_0 with _ | r7
                · rw [hq10] at h; cases h
                rw [hq10] at h
                simp only [] at h
                refine ge_batch [4] (ans := []) (vs := [(76, .int .i64 (IntKind.i64.wrap (1 + r6)))]) (l := []) (by kernel_rfl) trivial ?_
                refine ge_call (d := some 83) (f := 87) (args := #[.int .i64 (IntKind.i64.wrap (((mget m1_1 x3).getD 0) + 1)), .pointer (some ⟨bg2_0, 0, none⟩)]) (by kernel_rfl) (wcet_at_1_ok (IntKind.i64.wrap (((mget m1_1 x3).getD 0) + 1)) bg2_0 lg2_0 Ag2_0 cg2_0 _ (hS31.rd hRg2_0) hLg2_0 (Glob.ext hBg2_0 hS31.below) _ hq10) ?_
                rintro _ w13 ⟨rfl, hS32⟩
                refine ⟨_, rfl, hS32.below, ?_⟩
                have hS33 := hS31.call hS32
                refine ge_batch [12, 13] (ans := []) (vs := [(8, .int .i64 (IntKind.i64.wrap ((IntKind.i64.wrap (1 + r6)) + r7))), (84, .int .i64 (IntKind.i64.wrap ((IntKind.i64.wrap (1 + r6)) + r7)))]) (l := []) (by kernel_rfl) trivial ?_
                refine ge_nil fun a hF => hK16 _ _ ?_ a hF
                have hS34 := hS33.takeN 0
                obtain rfl := Option.some.inj h
                exact we_ret (post_ret (rs := [.tmp 8]) (ans := []) (vs := [.int .i64 (IntKind.i64.wrap ((IntKind.i64.wrap (1 + r6)) + r7))]) (l := []) rfl (by kernel_rfl) trivial ⟨rfl, hS34⟩)
              · rw [if_neg hc7] at h
                refine we_known (t := 70) (b := (e1.Op == 16)) (v := false) (by kernel_rfl) (beq_eq_false_iff_ne.2 hc7) ?_
                refine we_false (by kernel_rfl) ?_
                refine we_skip fun a hF => hK3 _ _ ?_ a hF
                refine we_seq fun K17 hK17 => ?_
                refine we_region [(0, 0), (1, 1), (2, 0), (3, 0), (4, 0), (5, 1), (6, 0), (7, 0)] rfl ?_
                refine ge_batch [0] (ans := [.val (.int .i64 e1.Op), .val (.int .i64 e1.A), .val (.int .i64 e1.B)]) (vs := [(85, .agg #[.int .i64 e1.Op, .int .i64 e1.A, .int .i64 e1.B])]) (l := [.loaded ⟨b2, 0, none⟩ (.int .i64 e1.Op), .loaded ⟨b2, 1, none⟩ (.int .i64 e1.A), .loaded ⟨b2, 2, none⟩ (.int .i64 e1.B)]) (by kernel_rfl) ⟨hS4.cell 0 rfl rfl, hS4.cell 0 rfl rfl, hS4.cell 0 rfl rfl, trivial⟩ ?_
                refine ge_call (d := some 86) (f := 12) (args := #[.agg #[.int .i64 e1.Op, .int .i64 e1.A, .int .i64 e1.B], .bool false]) (by kernel_rfl) (mach_Cost_ok e1 false _ _ rfl) ?_
                rintro _ w14 ⟨rfl, hS35⟩
                refine ⟨_, rfl, hS35.below, ?_⟩
                have hS36 := hS4.call hS35
                rcases hq12 : wcet_at_1.f (IntKind.i64.wrap (x3 + 1)) lg2_0 with _ | r8
                · rw [hq12] at h; cases h
                rw [hq12] at h
                simp only [] at h
                refine ge_batch [2, 3, 4] (ans := []) (vs := [(89, .int .i64 (IntKind.i64.wrap (x3 + 1))), (88, .int .i64 x3), (87, .func (.func 87) #[] #[.pointer (some ⟨bg2_0, 0, none⟩)])]) (l := []) (by kernel_rfl) trivial ?_
                refine ge_call (d := some 90) (f := 87) (args := #[.int .i64 (IntKind.i64.wrap (x3 + 1)), .pointer (some ⟨bg2_0, 0, none⟩)]) (by kernel_rfl) (wcet_at_1_ok (IntKind.i64.wrap (x3 + 1)) bg2_0 lg2_0 Ag2_0 cg2_0 _ (hS36.rd hRg2_0) hLg2_0 (Glob.ext hBg2_0 hS36.below) _ hq12) ?_
                rintro _ w15 ⟨rfl, hS37⟩
                refine ⟨_, rfl, hS37.below, ?_⟩
                have hS38 := hS36.call hS37
                refine ge_batch [6, 7] (ans := []) (vs := [(8, .int .i64 (IntKind.i64.wrap ((mach_Cost.f e1 false) + r8))), (91, .int .i64 (IntKind.i64.wrap ((mach_Cost.f e1 false) + r8)))]) (l := []) (by kernel_rfl) trivial ?_
                refine ge_nil fun a hF => hK17 _ _ ?_ a hF
                have hS39 := hS38.takeN 0
                obtain rfl := Option.some.inj h
                exact we_ret (post_ret (rs := [.tmp 8]) (ans := []) (vs := [.int .i64 (IntKind.i64.wrap ((mach_Cost.f e1 false) + r8))]) (l := []) rfl (by kernel_rfl) trivial ⟨rfl, hS39⟩)
  · rw [if_neg hc1] at h
    cases h

structure SBound where
  Worst : Int
  Rest : List Int
end Go.Proofs.Ytnckikjcjgmdlaa.GV
